/-
  JOINED (4): the contracts of put, Encode, get, Decode and Find of the package tree.
-/
import Derived.Test.YtefabpgfhghpgaaDoorTZC
import Derived.RegionDies
import Derived.Deep.RegionLaw
set_option linter.unusedVariables false
set_option linter.unusedSimpArgs false

section
/- The contract of tree.put. -/
namespace Go.Proofs.YtefabpgfhghpgaaDoor
open Go.RowKit Go.My

/-- a node's bytes -/
def nodeB (n : NodeL) : List UInt8 :=
  if n.dir = true then numB 1 1 ++ bytesB n.name ++ n.sub else numB 0 1 ++ bytesB n.name ++ numB n.size.toNat 8 ++ numB n.parts.length 4 ++ n.parts.flatten

/-- a writer at work: what it holds, what it has done since w0; the memory of wo is as it was -/
structure PutSt (wo w0 : World) (wb base : Nat) (v0 : Value) (wi : World) (l : List UInt8) (v : Value) : Prop where
  wr : WrT wi wb base l v
  wrote : Wrote wb w0 wi v0 v
  old : Ext No wo wi
theorem PutSt.step {wo w0 : World} {wb base : Nat} {v0 : Value} {wi wj : World} {l l' : List UInt8} {v v' : Value} (h : PutSt wo w0 wb base v0 wi l v) (ho : wo.heap.size ≤ base) (hb : base ≤ wb)
    (h1 : WrT wj wb base l' v') (h2 : Wrote wb wi wj v v') : PutSt wo w0 wb base v0 wj l' v' :=
  ⟨h1, h.wrote.trans h2, h.old.trans h2.ext (fun _ _ s => s) (fun j hj s => by
    rcases s with s | s
    · omega
    · have := (h.wr.own.lt j s).1; omega)⟩
theorem PutSt.ext {wo w0 : World} {wb base : Nat} {v0 : Value} {wi wj : World} {l : List UInt8} {v : Value} (h : PutSt wo w0 wb base v0 wi l v) (e : Ext No wi wj) : PutSt wo w0 wb base v0 wj l v :=
  ⟨⟨h.wr.box.ext e (fun s => s), h.wr.own.ext e (fun _ _ s => s)⟩, h.wrote.trans ⟨e.mono (fun _ _ s => s.elim), Moved.refl _ _⟩, h.old.trans' e⟩
/-- a block that is not the writer's stays -/
theorem PutSt.blk {wb base : Nat} {wi wj : World} {l : List UInt8} {v v' : Value} {b : Nat} {cs : Array Value} {T : TypeId} (h : WrT wi wb base l v) (h2 : Wrote wb wi wj v v') (hb : Blk wi b cs T) (h8 : 5 ≠ T) (hne : 54 ≠ T) : Blk wj b cs T :=
  hb.ext h2.ext (fun s => by
    rcases s with s | s
    · exact h.box.ne_type hb hne s.symm
    · exact own_ne_type h.own hb h8 s)
theorem ids_bytes {w : World} {b o : Nat} {x : List UInt8} (hl : x.length = 32) (h : w.rangeAt b o (byts x)) : IsBytes w x (.slice (some ⟨b, o, none⟩) 32 32) := by
  refine ⟨_, 32, by rw [hl], by omega, by decide, fun i hi => ⟨b, o, rfl, h i _ ?_⟩⟩
  have := byts_get x i hi
  rw [List.getElem?_toArray] at this
  exact this

theorem flat_len (ps : List (List UInt8)) (k : Nat) (h : ∀ p ∈ ps, p.length = 32) : (ps.take k).flatten.length ≤ 32 * k := by
  induction k generalizing ps with
  | zero => simp
  | succ k ih =>
    cases ps with
    | nil => simp
    | cons p ps =>
      have h1 := h p (List.mem_cons_self ..)
      have h2 := ih ps (fun q hq => h q (List.mem_cons_of_mem _ hq))
      rw [List.take_succ_cons, List.flatten_cons, List.length_append]
      omega
theorem one_byts (x : List UInt8) : (byts x).toArray.all (·.oneCell') = true := all_oneCell_toArray fun v hv => by
  unfold byts at hv
  obtain ⟨y, -, rfl⟩ := List.mem_map.1 hv
  rfl
/-- a sum goes into a variable that was made for it -/
theorem store_id (w : World) (x : List UInt8) (hl : x.length = 32) : ∀ Z : Array Value, Z.size = 32 →
    (Instr.storeAt 40 (.pointer (some ⟨w.heap.size, 0, none⟩)) (.agg (byts x).toArray)).run Tryd.prog (w.alloc (.cells Z 40)) = .ok () (w.alloc (.cells (byts x).toArray 40)) := fun Z hZ =>
  run_storeAt_new (P := Tryd.prog) w 40 Z (byts x).toArray (by rw [List.size_toArray, byts_length, hl]; exact info40) (by simp [hZ, byts_length, hl]) (one_byts x)

set_option maxRecDepth 100000 in
set_option maxHeartbeats 8000000 in
theorem put_any (n : NodeL) (cs : List Value) (wo w : World) (wb base : Nat) (l : List UInt8) (v : Value) (hnd : IsNode wo n cs) (hw : WrT w wb base l v) (hE : Ext No wo w) (hwo : wo.heap.size ≤ base) (hbw : base ≤ wb)
    (hsz : 0 ≤ n.size) (hnl : n.name.length ≤ 1000000000) (hpl : n.parts.length ≤ 1000000000) (hll : l.length ≤ 500000000000) :
    Calls Tryd.prog 21 #[.pointer (some ⟨wb, 0, none⟩), .agg cs.toArray] w fun e w' => e = .returned (.tuple #[]) ∧ ∃ v', WrT w' wb base (l ++ nodeB n) v' ∧ Wrote wb w w' v v' ∧ Ext No wo w' := by
  obtain ⟨⟨pv, hcs, hids⟩, hsub, hlo, hhi⟩ := hnd
  obtain ⟨pa, pc, rfl, hpc, hpc2, hat⟩ := hids
  have c0 : cs[0]? = some (.string (strB n.name)) := by rw [hcs]; rfl
  have c1 : cs[1]? = some (.bool n.dir) := by rw [hcs]; rfl
  have c2 : cs[2]? = some (.int .i64 n.size) := by rw [hcs]; rfl
  have c3 : cs[3]? = some (.slice pa n.parts.length pc) := by rw [hcs]; rfl
  have hx0 : Ext No w (w.alloc (.cells cs.toArray 42)) := (Ext.refl No w).alloc _
  have hst0 : PutSt wo w wb base v (w.alloc (.cells cs.toArray 42)) l v := PutSt.ext ⟨hw, Wrote.refl _ _ _, hE⟩ hx0
  have hB0 : Blk (w.alloc (.cells cs.toArray 42)) w.heap.size cs.toArray 42 := Blk.new w _ _
  obtain ⟨nb, hnb⟩ : ∃ nb, w.heap.size = nb := ⟨_, rfl⟩
  obtain ⟨w1, hw1⟩ : ∃ w1, w.alloc (.cells cs.toArray 42) = w1 := ⟨_, rfl⟩
  rw [hw1] at hst0 hB0 hx0
  rw [hnb] at hB0
  have hrow : ∀ W, Blk W nb cs.toArray 42 → IsBytes W n.sub (.slice (some ⟨nb, 4, none⟩) 32 32) := fun W hB => by
    have h : W.rangeAt nb 4 (byts n.sub) := by
      have h := rangeAt.blk hB 4
      rw [hcs] at h
      exact h
    exact ids_bytes hsub h
  have hcell : ∀ W, Blk W nb cs.toArray 42 → W.cell? ⟨nb, 0, none⟩ = some (.string (strB n.name)) ∧ W.cell? ⟨nb, 1, none⟩ = some (.bool n.dir) ∧ W.cell? ⟨nb, 2, none⟩ = some (.int .i64 n.size) ∧ W.cell? ⟨nb, 3, none⟩ = some (.slice pa n.parts.length pc) := fun W hB => by
    rw [hB.cell, hB.cell, hB.cell, hB.cell]
    simp only [List.getElem?_toArray]
    exact ⟨c0, c1, c2, c3⟩
  have HROW := Lib.hid hrow; have HCELL := Lib.hid hcell; have HST0 := Lib.hid hst0; have HB0 := Lib.hid hB0; have HAT := Lib.hid hat; have HWO := Lib.hid hwo; have HBW := Lib.hid hbw
  have HN1 := Lib.hid hnb; have HN2 := Lib.hid hw1
  have HNB := Lib.hid (show nodeB n = if n.dir = true then numB 1 1 ++ bytesB n.name ++ n.sub else numB 0 1 ++ bytesB n.name ++ numB n.size.toNat 8 ++ numB n.parts.length 4 ++ n.parts.flatten from rfl)
  obtain ⟨nm, dir, sz, parts, sub⟩ := n
  dsimp only at *
  have HNL := Lib.hid hnl; have HPL := Lib.hid hpl; have HLL := Lib.hid hll; have HSUB := Lib.hid hsub
  clear hrow hcell hst0 hB0 hat hwo hbw hnb hw1 hw hE hcs hx0 hnl hpl hll
  cases dir
  · obtain ⟨d0, d1, -, -⟩ := HCELL.out w1 HB0.out
    obtain ⟨sz, rfl⟩ : ∃ m : Nat, sz = (m : Int) := ⟨sz.toNat, by omega⟩
    obtain ⟨np, hnp⟩ : ∃ m, m = parts.length := ⟨_, rfl⟩
    have HNP := Lib.hid hnp
    have hp64 : np ≤ 1000000000 := by have := HPL.out; omega
    have hs64 : sz ≤ 18446744073709551615 := by omega
    rw [← hnp] at c3 HCELL hpc
    clear hnp
    go_enter Tryd.func21, Tryd.ntmps21
    go_wp2_with fail
    rw [HN2.out, HN1.out]
    clear c0 c1 c2 c3
    go_wp2_with fail
    clear d0 d1
    refine (num_any 0 1 (by omega) (by decide) (by decide) wb base l v w1 HST0.out.wr (by have := HLL.out; omega) (by have := HST0.out.wr.box.lt; have := HBW.out; omega)).mono ?_
    rintro e w2 ⟨rfl, v2, hw2, ht2⟩
    have HB2 := Lib.hid (PutSt.blk HST0.out.wr ht2 HB0.out (by decide) (by decide)); have HST2 := Lib.hid (HST0.out.step HWO.out HBW.out hw2 ht2)
    clear hw2 ht2 HB0 HST0
    obtain ⟨d0, d1, d2, d3⟩ := HCELL.out w2 HB2.out
    dsimp only
    go_wp2_with fail
    clear d0 d1 d2 d3
    refine (wtext_any nm wb base (l ++ numB 0 1) v2 w2 HST2.out.wr (by have := HLL.out; have := HNL.out; rw [List.length_append, numB_length]; omega) (by have := HST2.out.wr.box.lt; have := HBW.out; omega)).mono ?_
    rintro e w3 ⟨rfl, v3, hw3, ht3⟩
    have HB3 := Lib.hid (PutSt.blk HST2.out.wr ht3 HB2.out (by decide) (by decide)); have HST3 := Lib.hid (HST2.out.step HWO.out HBW.out hw3 ht3)
    clear hw3 ht3 HB2 HST2
    obtain ⟨d0, d1, d2, d3⟩ := HCELL.out w3 HB3.out
    dsimp only
    go_wp2_with fail
    clear d0 d1 d2 d3
    refine (num_any sz 8 hs64 (by decide) (by decide) wb base (l ++ numB 0 1 ++ bytesB nm) v3 w3 HST3.out.wr (by have := HLL.out; have := HNL.out; rw [List.length_append, List.length_append, numB_length, bytesB_length]; omega) (by have := HST3.out.wr.box.lt; have := HBW.out; omega)).mono ?_
    rintro e w4 ⟨rfl, v4, hw4, ht4⟩
    have HB4 := Lib.hid (PutSt.blk HST3.out.wr ht4 HB3.out (by decide) (by decide)); have HST4 := Lib.hid (HST3.out.step HWO.out HBW.out hw4 ht4)
    clear hw4 ht4 HB3 HST3
    obtain ⟨d0, d1, d2, d3⟩ := HCELL.out w4 HB4.out
    dsimp only
    go_wp2_with fail
    clear d0 d1 d2 d3
    refine (num_any np 4 (by omega) (by decide) (by decide) wb base (l ++ numB 0 1 ++ bytesB nm ++ numB sz 8) v4 w4 HST4.out.wr (by have := HLL.out; have := HNL.out; rw [List.length_append, List.length_append, List.length_append, numB_length, numB_length, bytesB_length]; omega) (by have := HST4.out.wr.box.lt; have := HBW.out; omega)).mono ?_
    rintro e w5 ⟨rfl, v5, hw5, ht5⟩
    have HB5 := Lib.hid (PutSt.blk HST4.out.wr ht5 HB4.out (by decide) (by decide)); have HST5 := Lib.hid (HST4.out.step HWO.out HBW.out hw5 ht5)
    clear hw5 ht5 HB4 HST4
    obtain ⟨d0, d1, d2, d3⟩ := HCELL.out w5 HB5.out
    dsimp only
    go_wp2_with fail
    clear d0 d1 d2 d3
    obtain ⟨L, hL⟩ : ∃ L, L = l ++ numB 0 1 ++ bytesB nm ++ numB sz 8 ++ numB np 4 := ⟨_, rfl⟩
    rw [← hL] at HST5
    have HLB := Lib.hid (show L.length ≤ 600000000000 by rw [hL]; have := HLL.out; have := HNL.out; rw [List.length_append, List.length_append, List.length_append, List.length_append, numB_length, numB_length, numB_length, bytesB_length]; omega)
    have HL := Lib.hid hL
    clear hL HB5
    go_loopw [38] (fun i wr => ∃ (k : Nat) (vk : Value), i = .int .i64 k ∧ k ≤ np ∧ PutSt wo w wb base v wr (L ++ (parts.take k).flatten) vk) (fun i _ => np - (intOf i).toNat)
    case atStart => exact ⟨0, v5, rfl, Nat.zero_le _, by simpa using HST5.out⟩
    case round =>
      obtain ⟨k, vk, rfl, hk, hst⟩ := hrel
      have HSTK := Lib.hid hst
      clear hst
      by_cases hlt : k < np
      · have hltI : (k : Int) < np := by omega
        have hlt' : k < parts.length := by rw [← HNP.out]; exact hlt
        obtain ⟨pb, off, rfl, hra⟩ := HAT.out.at_ k hlt'
        have hlx : (parts.getD k []).length = 32 := HAT.out.len _ (by rw [List.getD_eq_getElem?_getD, List.getElem?_eq_getElem hlt']; exact List.getElem_mem _)
        have hfl : (parts.take (k + 1)).flatten = (parts.take k).flatten ++ parts.getD k [] := by
          rw [List.take_add_one, List.flatten_append, List.getElem?_eq_getElem hlt']
          simp [List.getD_eq_getElem?_getD, List.getElem?_eq_getElem hlt']
        have hfk : (parts.take k).flatten.length ≤ 32 * k := flat_len parts k HAT.out.len
        generalize parts.getD k [] = x at *
        have HFL := Lib.hid hfl; have HFK := Lib.hid hfk
        have HL40 := Lib.hid (run_loadAt_mid (P := Tryd.prog) wr pb (off + k * 32) 40 (byts x) _ (rangeAt.ext0 hra HSTK.out.old) Tryd.underlying40 rfl (by rw [byts_length, hlx]; exact info40))
        have HS40 := Lib.hid (store_id wr x hlx)
        have HBX := Lib.hid (Blk.new wr (byts x).toArray 40)
        have hbx : IsBytes (wr.alloc (.cells (byts x).toArray 40)) x (.slice (some ⟨wr.heap.size, 0, none⟩) 32 32) := ids_bytes hlx (rangeAt.blk HBX.out 0)
        have HBY := Lib.hid hbx
        have HSTA := Lib.hid (HSTK.out.ext ((Ext.refl No wr).alloc (.cells (byts x).toArray 40)))
        have HLX := Lib.hid hlx
        clear hra hfl hfk hbx HSTK HBX hlx hlt'
        go_wp2_with (first | ((with_reducible refine wpList_load_at ?_ 40 _ rfl ?_ HL40.out ?_); rfl; rfl) | ((with_reducible refine wpList_store_at ?_ 40 _ _ rfl ?_ ?_ (HS40.out _ ?_) ?_); rfl; rfl; rfl; rfl))
        refine (raw_any x (some ⟨wr.heap.size, 0, none⟩) 32 32 wb base (L ++ (parts.take k).flatten) vk _ HSTA.out.wr HBY.out (NilOk.some _ _ _) (by have := HLB.out; have := HFK.out; have := HLX.out; rw [List.length_append]; omega) (by have := HSTA.out.wr.box.lt; have := HBW.out; omega)).mono ?_
        rintro e w7 ⟨rfl, v7, hw7, ht7⟩
        have HST7 := Lib.hid (HSTA.out.step HWO.out HBW.out hw7 ht7)
        clear hw7 ht7 HSTA HBY HL40 HS40
        dsimp only
        go_wp2_with fail
        go_roundw
        case rel => exact ⟨k + 1, v7, by go_num, by omega, by rw [HFL.out, ← List.append_assoc]; exact HST7.out⟩
        case measure => simp [intOf]; omega
      · have hkn : np = k := by omega
        subst hkn
        go_wp2_with fail
        go_end0
        refine ⟨rfl, vk, ?_, HSTK.out.wrote, HSTK.out.old⟩
        have h := HSTK.out.wr
        rw [HNP.out, List.take_length, HL.out, HNP.out] at h
        rw [HNB.out, if_neg (by decide)]
        simpa [List.append_assoc] using h
  · obtain ⟨d0, d1, -, -⟩ := HCELL.out w1 HB0.out
    go_enter Tryd.func21, Tryd.ntmps21
    go_wp2_with fail
    rw [HN2.out, HN1.out]
    clear c0 c1 c2 c3
    go_wp2_with fail
    clear d0 d1
    refine (num_any 1 1 (by omega) (by decide) (by decide) wb base l v w1 HST0.out.wr (by have := HLL.out; omega) (by have := HST0.out.wr.box.lt; have := HBW.out; omega)).mono ?_
    rintro e w2 ⟨rfl, v2, hw2, ht2⟩
    have HB2 := Lib.hid (PutSt.blk HST0.out.wr ht2 HB0.out (by decide) (by decide)); have HST2 := Lib.hid (HST0.out.step HWO.out HBW.out hw2 ht2)
    clear hw2 ht2 HB0 HST0
    obtain ⟨d0, d1, d2, d3⟩ := HCELL.out w2 HB2.out
    dsimp only
    go_wp2_with fail
    clear d0 d1 d2 d3
    refine (wtext_any nm wb base (l ++ numB 1 1) v2 w2 HST2.out.wr (by have := HLL.out; have := HNL.out; rw [List.length_append, numB_length]; omega) (by have := HST2.out.wr.box.lt; have := HBW.out; omega)).mono ?_
    rintro e w3 ⟨rfl, v3, hw3, ht3⟩
    have HB3 := Lib.hid (PutSt.blk HST2.out.wr ht3 HB2.out (by decide) (by decide)); have HST3 := Lib.hid (HST2.out.step HWO.out HBW.out hw3 ht3)
    clear hw3 ht3 HB2 HST2
    obtain ⟨d0, d1, d2, d3⟩ := HCELL.out w3 HB3.out
    dsimp only
    go_wp2_with fail
    clear d0 d1 d2 d3
    refine (raw_any sub (some ⟨nb, 4, none⟩) 32 32 wb base (l ++ numB 1 1 ++ bytesB nm) v3 w3 HST3.out.wr (HROW.out w3 HB3.out) (NilOk.some _ _ _) (by have := HLL.out; have := HNL.out; have := HSUB.out; rw [List.length_append, List.length_append, numB_length, bytesB_length]; omega) (by have := HST3.out.wr.box.lt; have := HBW.out; omega)).mono ?_
    rintro e w4 ⟨rfl, v4, hw4, ht4⟩
    have HST4 := Lib.hid (HST3.out.step HWO.out HBW.out hw4 ht4)
    clear hw4 ht4 HST3 HB3
    dsimp only
    go_wp2_with fail
    refine bodyPost_ret (results_none rfl _ _ _) rfl ?_
    refine ⟨rfl, v4, ?_, HST4.out.wrote, HST4.out.old⟩
    rw [HNB.out, if_pos trivial]
    have := HST4.out.wr
    simpa [List.append_assoc] using this
end Go.Proofs.YtefabpgfhghpgaaDoor
end

section
/- The contract of tree.Encode. -/
namespace Go.Proofs.YtefabpgfhghpgaaDoor
open Go.RowKit Go.My

/-- a list's bytes -/
def nodesB (ns : List NodeL) : List UInt8 := (ns.map nodeB).flatten
def encB (ns : List NodeL) : List UInt8 := sealB 84 (numB ns.length 4 ++ nodesB ns)
theorem nodesB_take (ns : List NodeL) (k : Nat) (h : k < ns.length) : nodesB (ns.take (k + 1)) = nodesB (ns.take k) ++ nodeB (ns.getD k node0) := by
  unfold nodesB
  rw [List.take_add_one, List.map_append, List.flatten_append, List.getElem?_eq_getElem h]
  simp [List.getD_eq_getElem?_getD, List.getElem?_eq_getElem h]
theorem nodeE_ok {n : NodeL} (h : nodeE n = 0) : 0 ≤ n.size ∧ n.parts.length ≤ 4096 ∧ (n.dir = true → n.size = 0 ∧ n.parts = []) ∧ (n.dir = false → n.sub = zero32) := by
  unfold nodeE at h
  split at h
  · cases h
  · rename_i h1
    split at h
    · cases h
    · rename_i h2
      cases hd : n.dir
      · refine ⟨?_, by omega, fun h => (by cases h), fun _ => ?_⟩
        · rcases Int.lt_or_le n.size 0 with h3 | h3
          · exact absurd (.inr ⟨hd, .inl h3⟩) h1
          · exact h3
        · by_cases h3 : n.sub = zero32
          · exact h3
          · exact absurd (.inr ⟨hd, .inr h3⟩) h1
      · have h3 : n.size = 0 := by
          by_cases h3 : n.size = 0
          · exact h3
          · exact absurd (.inl ⟨hd, .inl h3⟩) h1
        refine ⟨by omega, by omega, fun _ => ⟨h3, ?_⟩, fun h => (by cases h)⟩
        by_cases h4 : n.parts = []
        · exact h4
        · exact absurd (.inl ⟨hd, .inr h4⟩) h1
theorem chk_ok : ∀ (ns : List NodeL) (p : Option (List UInt8)), chkL p ns = 0 → ∀ n ∈ ns, partB n.name = true ∧ nodeE n = 0 := by
  intro ns
  induction ns with
  | nil => intro p _ n hn; cases hn
  | cons m ns ih =>
    intro p h n hn
    rw [chk_cons] at h
    split at h
    · cases h
    · rename_i h1
      split at h
      · cases h
      · split at h
        · rename_i h3
          rcases List.mem_cons.1 hn with rfl | hn
          · exact ⟨by simpa using h1, h3⟩
          · exact ih _ h n hn
        · rename_i h3; exact absurd h h3
theorem nodes_ok {ns : List NodeL} (h : nodesE ns = 0) : ns.length ≤ 512 ∧ ∀ n ∈ ns, partB n.name = true ∧ nodeE n = 0 := by
  unfold nodesE at h
  split at h
  · cases h
  · rename_i h1
    exact ⟨by omega, chk_ok ns none h⟩
theorem part_len {s : List UInt8} (h : partB s = true) : s.length ≤ 40 := by
  unfold partB at h
  simp only [Bool.and_eq_true, decide_eq_true_eq] at h
  exact h.1.2
theorem flat_all (ps : List (List UInt8)) (h : ∀ p ∈ ps, p.length = 32) : ps.flatten.length = 32 * ps.length := by
  induction ps with
  | nil => rfl
  | cons p ps ih =>
    have h1 := h p (List.mem_cons_self ..)
    have h2 := ih (fun q hq => h q (List.mem_cons_of_mem _ hq))
    rw [List.flatten_cons, List.length_append, List.length_cons]
    omega
theorem nodeB_len {n : NodeL} (h1 : partB n.name = true) (h2 : nodeE n = 0) (h3 : n.sub.length = 32) (h4 : ∀ p ∈ n.parts, p.length = 32) : (nodeB n).length ≤ 132000 := by
  have h5 := part_len h1
  have h6 := (nodeE_ok h2).2.1
  have h7 := flat_all n.parts h4
  unfold nodeB
  split
  · simp only [List.length_append, numB_length, bytesB_length]; omega
  · simp only [List.length_append, numB_length, bytesB_length]; omega
theorem nodesB_len (ns : List NodeL) (k : Nat) (h : ∀ n ∈ ns, (nodeB n).length ≤ 132000) : (nodesB (ns.take k)).length ≤ 132000 * k := by
  induction k generalizing ns with
  | zero => simp [nodesB]
  | succ k ih =>
    cases ns with
    | nil => simp [nodesB]
    | cons n ns =>
      have h1 := h n (List.mem_cons_self ..)
      have h2 := ih ns (fun q hq => h q (List.mem_cons_of_mem _ hq))
      have e : nodesB (List.take (k + 1) (n :: ns)) = nodeB n ++ nodesB (ns.take k) := rfl
      rw [e, List.length_append]
      omega

theorem k84 : (((84 : UInt8).toNat : Nat) : Int) = (84 : Int) := rfl
theorem seal84_any (b : List UInt8) (a : Option Addr) (n c : Nat) (w : World) (hv : IsBytes w b (.slice a n c)) (hn : NilOk (.slice a n c)) (hl : b.length + 100 ≤ 1099511627776) :
    Calls Tryd.prog 22 #[.int .u8 84, .slice a n c] w fun e w' => ∃ x, e = .returned x ∧ OwnB w' 5 w.heap.size (sealB 84 b) x ∧ Ext No w w' := by
  have h := seal_any 84 b a n c w hv hn hl
  rw [k84] at h
  exact h

set_option maxRecDepth 100000 in
set_option maxHeartbeats 8000000 in
theorem tencode_any (ns : List NodeL) (v : Value) (w : World) (hv : IsNodes w ns v) (hlen : ∀ m ∈ ns, m.name.length ≤ 1000000000) :
    Calls Tryd.prog 9 #[v] w fun e w' => Ext No w w' ∧ ((nodesE ns = 0 ∧ ∃ x, e = .returned (.tuple #[x, .int .i64 0]) ∧ OwnB w' 5 w.heap.size (encB ns) x) ∨ (nodesE ns ≠ 0 ∧ e = .returned (.tuple #[.slice none 0 0, .int .i64 (nodesE ns)]))) := by
  have HCK := Lib.hid (tcheck_any ns v w hv hlen)
  obtain ⟨a, c, rfl, hc1, hc2, hat⟩ := id hv
  obtain ⟨n, hn⟩ : ∃ n, n = ns.length := ⟨_, rfl⟩
  rw [← hn] at hv hc1 HCK ⊢
  have HN := Lib.hid hn; have HAT := Lib.hid hat
  have HOK := Lib.hid (fun h => nodes_ok (ns := ns) h)
  clear hv hn hat hlen
  obtain ⟨er, her⟩ : ∃ r, r = nodesE ns := ⟨_, rfl⟩
  rw [← her] at HCK ⊢
  have HER := Lib.hid her
  clear her
  by_cases h0 : er = 0
  case neg =>
    have h0b : (er == 0) = false := by simpa using h0
    go_enter Tryd.func9, Tryd.ntmps9
    go_wp2_with fail
    refine HCK.out.mono ?_
    rintro e w1 ⟨rfl, hx1⟩
    have HX1 := Lib.hid hx1
    clear hx1
    dsimp only
    go_wp2_with fail
    go_ret2
    exact ⟨HX1.out, .inr ⟨h0, rfl⟩⟩
  case pos =>
    subst h0
    obtain ⟨h512, hall⟩ := HOK.out HER.out.symm
    rw [← HN.out] at h512
    have HALL := Lib.hid hall
    have HBL : Hid (∀ m ∈ ns, (nodeB m).length ≤ 132000) := Lib.hid fun m hm => by
      obtain ⟨i, hi, rfl⟩ := List.mem_iff_getElem.1 hm
      obtain ⟨b, off, cs, -, -, hnd⟩ := HAT.out.at_ i hi
      rw [List.getD_eq_getElem?_getD, List.getElem?_eq_getElem hi] at hnd
      obtain ⟨⟨pv, -, ⟨pa, pc, -, -, -, hids⟩⟩, hsub, -, -⟩ := hnd
      obtain ⟨h1, h2⟩ := hall _ hm
      exact nodeB_len h1 h2 hsub hids.len
    clear hall HOK
    go_enter Tryd.func9, Tryd.ntmps9
    go_wp2_with fail
    refine HCK.out.mono ?_
    rintro e w1 ⟨rfl, hx1⟩
    have hbx := Blk.new w1 #[.slice none 0 0] 54
    have hx0 : Ext No w1 (w1.alloc (.cells #[.slice none 0 0] 54)) := (Ext.refl No w1).alloc _
    have hw0 : WrT (w1.alloc (.cells #[.slice none 0 0] 54)) w1.heap.size w1.heap.size [] (.slice none 0 0) := ⟨hbx, ⟨rfl, .inl ⟨rfl, rfl⟩⟩⟩
    obtain ⟨wb, hwb⟩ : ∃ wb, w1.heap.size = wb := ⟨_, rfl⟩
    obtain ⟨w2, hw2e⟩ : ∃ w2, w1.alloc (.cells #[.slice none 0 0] 54) = w2 := ⟨_, rfl⟩
    rw [hw2e, hwb] at hw0
    rw [hw2e] at hx0
    have HST2 := Lib.hid (show PutSt w w2 wb wb (.slice none 0 0) w2 [] (.slice none 0 0) from ⟨hw0, Wrote.refl _ _ _, hx1.trans' hx0⟩)
    have HWO := Lib.hid (show w.heap.size ≤ wb by rw [← hwb]; exact hx1.size)
    have H1 := Lib.hid hwb; have H2 := Lib.hid hw2e
    clear hx1 hbx hx0 hw0 hwb hw2e HCK
    dsimp only
    go_wp2_with fail
    rw [H1.out, H2.out]
    refine (num_any n 4 (by omega) (by decide) (by decide) wb wb [] (.slice none 0 0) w2 HST2.out.wr (by simp) (by have := HST2.out.wr.box.lt; omega)).mono ?_
    rintro e w3 ⟨rfl, v3, hw3, ht3⟩
    rw [List.nil_append] at hw3
    have HST3 := Lib.hid (HST2.out.step HWO.out (Nat.le_refl _) hw3 ht3)
    clear hw3 ht3 HST2 H1 H2
    dsimp only
    go_wp2_with fail
    go_loopw [19] (fun i wr => ∃ (k : Nat) (vk : Value), i = .int .i64 k ∧ k ≤ n ∧ PutSt w w2 wb wb (.slice none 0 0) wr (numB n 4 ++ nodesB (ns.take k)) vk) (fun i _ => n - (intOf i).toNat)
    case atStart => exact ⟨0, v3, rfl, Nat.zero_le _, by rw [List.take_zero, show nodesB [] = [] from rfl, List.append_nil]; exact HST3.out⟩
    case round =>
      obtain ⟨k, vk, rfl, hk, hst⟩ := hrel
      have HSTK := Lib.hid hst
      clear hst
      by_cases hlt : k < n
      · have hltI : (k : Int) < n := by omega
        have hlt' : k < ns.length := by rw [← HN.out]; exact hlt
        obtain ⟨b, off, cs, rfl, hra, hnd⟩ := HAT.out.at_ k hlt'
        have hmem : ns.getD k node0 ∈ ns := by rw [List.getD_eq_getElem?_getD, List.getElem?_eq_getElem hlt']; exact List.getElem_mem _
        have hok := HALL.out _ hmem
        have hnt := nodesB_take ns k hlt'
        have hnl := nodesB_len ns k HBL.out
        generalize ns.getD k node0 = nd at *
        have hl36 := hnd.length
        have h1 := hnd.one
        have HNT := Lib.hid hnt; have HNL := Lib.hid hnl; have HOK := Lib.hid hok; have HND := Lib.hid hnd
        have HL42 := Lib.hid (run_loadAt_mid (P := Tryd.prog) wr b (off + k * 36) 42 cs _ (rangeAt.ext0 hra HSTK.out.old) Tryd.underlying42 rfl (by rw [hl36]; exact info42))
        have HS42 := Lib.hid (store_node wr cs hl36 h1)
        have HLN := Lib.hid (run_loadAt_mid (P := Tryd.prog) (wr.alloc (.cells cs.toArray 42)) wr.heap.size 0 42 cs _ (rangeAt.blk (Blk.new wr cs.toArray 42) 0) Tryd.underlying42 rfl (by rw [hl36]; exact info42))
        have HSTA := Lib.hid (HSTK.out.ext ((Ext.refl No wr).alloc (.cells cs.toArray 42)))
        clear hra hnd hmem hok hnt hnl hlt' h1 hl36 HSTK
        go_wp2_with (first | ((with_reducible refine wpList_load_at ?_ 42 _ rfl ?_ HL42.out ?_); rfl; rfl) | ((with_reducible refine wpList_store_at ?_ 42 _ _ rfl ?_ ?_ (HS42.out _ ?_) ?_); rfl; rfl; rfl; rfl) | ((with_reducible refine wpList_load_at ?_ 42 _ rfl ?_ HLN.out ?_); rfl; rfl))
        refine (put_any nd cs w _ wb wb _ vk HND.out HSTA.out.wr HSTA.out.old HWO.out (Nat.le_refl _) (nodeE_ok HOK.out.2).1 (by have := part_len HOK.out.1; omega) (by have := (nodeE_ok HOK.out.2).2.1; omega) (by have := HNL.out; rw [List.length_append, numB_length]; omega)).mono ?_
        rintro e w7 ⟨rfl, v7, hw7, ht7, -⟩
        have HST7 := Lib.hid (HSTA.out.step HWO.out (Nat.le_refl _) hw7 ht7)
        clear hw7 ht7 HSTA HL42 HS42 HLN
        dsimp only
        go_wp2_with fail
        go_roundw
        case rel => exact ⟨k + 1, v7, by go_num, by omega, by rw [HNT.out, ← List.append_assoc]; exact HST7.out⟩
        case measure => simp [intOf]; omega
      · have hkn : n = k := by omega
        subst hkn
        have hnl := nodesB_len ns n HBL.out
        have HNL := Lib.hid hnl
        clear hnl
        have hst := HSTK.out
        rw [show ns.take n = ns by rw [HN.out]; exact List.take_length] at hst HNL
        have HST := Lib.hid hst
        clear hst HSTK
        go_wp2_with fail
        refine (done_any wb wb (numB n 4 ++ nodesB ns) vk wr HST.out.wr (by have := HNL.out; rw [List.length_append, numB_length]; omega)).mono ?_
        rintro e w8 ⟨x8, rfl, ho8, hx8⟩
        have hb8 := ho8.bytes
        have hn8 := NilOk.own ho8
        obtain ⟨a8, c8, rfl⟩ := own_form ho8
        obtain ⟨m8, hm8⟩ : ∃ m, m = (numB n 4 ++ nodesB ns).length := ⟨_, rfl⟩
        rw [← hm8] at hb8 hn8 ⊢
        have HB8 := Lib.hid hb8; have HN8 := Lib.hid hn8; have HX8 := Lib.hid hx8
        clear ho8 hx8 hb8 hn8 hm8
        dsimp only
        go_wp2_with fail
        refine (seal84_any (numB n 4 ++ nodesB ns) _ _ _ w8 HB8.out HN8.out (by have := HNL.out; rw [List.length_append, numB_length]; omega)).mono ?_
        rintro e w9 ⟨x9, rfl, ho9, hx9⟩
        have HO9 := Lib.hid ho9; have HX9 := Lib.hid hx9
        clear ho9 hx9
        dsimp only
        go_wp2_with fail
        go_ret2
        refine ⟨(HST.out.old.trans' HX8.out).trans' HX9.out, .inl ⟨by trivial, x9, rfl, ?_⟩⟩
        have h := HO9.out
        rw [HN.out] at h
        exact own_le h (by have := HST.out.old.size; have := HX8.out.size; omega)
end Go.Proofs.YtefabpgfhghpgaaDoor
end

section
/- The contract of tree.id. -/
namespace Go.Proofs.YtefabpgfhghpgaaDoor
open Go.RowKit Go.My

theorem setCells_ext (b : Nat) : ∀ (vs : List Value) (w : World) (o : Nat), Ext (fun j => j = b) w (w.setCells b o vs) := by
  intro vs
  induction vs with
  | nil => intro w i; exact Ext.refl _ w
  | cons v vs ih => intro w i; exact ((Ext.refl (fun j => j = b) w).setCell ⟨b, i, none⟩ v (fun _ => rfl)).trans' (ih _ _)
theorem setCells_blk (b : Nat) (T : TypeId) : ∀ (vs : List Value) (w : World) (us ws zs : List Value), Blk w b (us ++ ws ++ zs).toArray T → ws.length = vs.length → Blk (w.setCells b us.length vs) b (us ++ vs ++ zs).toArray T := by
  intro vs
  induction vs with
  | nil => intro w us ws zs h hl; have : ws = [] := List.length_eq_zero_iff.1 hl; subst this; exact h
  | cons v vs ih =>
    intro w us ws zs h hl
    cases ws with
    | nil => cases hl
    | cons x ws =>
      have h1 := h.set us.length v
      have e : (us ++ x :: ws ++ zs).toArray.setIfInBounds us.length v = ((us ++ [v]) ++ ws ++ zs).toArray := by simp
      rw [e] at h1
      have h2 := ih (w.setCell ⟨b, us.length, none⟩ v) (us ++ [v]) ws zs h1 (by simpa using hl)
      rw [List.length_append, List.append_assoc us [v] vs] at h2
      exact h2
theorem Blk.there {w : World} {b : Nat} {cs : List Value} {T : TypeId} (h : Blk w b cs.toArray T) (o n : Nat) (hn : o + n ≤ cs.length) : w.there b o n := fun j hj => by
  rw [h.cell, h.free]
  refine ⟨?_, rfl⟩
  simp [List.getElem?_eq_getElem (show o + j < cs.length by omega)]
theorem bytes_range {w : World} {x : List UInt8} {b o n c : Nat} (h : IsBytes w x (.slice (some ⟨b, o, none⟩) n c)) : w.rangeAt b o (byts x) := fun j v hv => by
  have hj : j < (byts x).length := (List.getElem?_eq_some_iff.1 hv).1
  rw [byts_length] at hj
  obtain ⟨b1, o1, h1, h2⟩ := IsBytes.get h j (by rw [h.len]; exact hj)
  cases h1
  rw [h2]
  have := byts_get x j hj
  rw [List.getElem?_toArray, hv] at this
  rw [Option.some.inj this]

theorem setRow_blk {w : World} {b : Nat} {old cs : Array Value} {T : TypeId} (h : Blk w b old T) : Blk (w.setRow b cs) b cs T := setRow_heap w b old cs T (0, 0) h
theorem setRow_ext (w : World) (b : Nat) (cs : Array Value) : Ext (fun j => j = b) w (w.setRow b cs) :=
  ⟨rfl, rfl, rfl, by rw [setRow_size]; exact Nat.le_refl _, fun i _ hs => setRow_other w b i cs hs⟩
/-- a whole variable is written -/
theorem store_row {w : World} {b : Nat} {old cs : Array Value} {T ty : TypeId} (h : Blk w b old T) (hi : (Tryd.prog.info? ty).map (·.size) = some cs.size) (ho : old.size = cs.size) (h1 : cs.all (·.oneCell') = true) :
    (Instr.storeAt ty (.pointer (some ⟨b, 0, none⟩)) (.agg cs)).run Tryd.prog w = .ok () (w.setRow b cs) := by
  simp only [Instr.storeAt, Instr.sureAddr, Sem.run_bind, Sem.run_pure, Result.andThen_ok, run_storeVar_row (P := Tryd.prog) w b T ty old cs h hi ho h1]
theorem array_at (b o : Nat) (w : World) : (Instr.arrayAt 40 (.slice (some ⟨b, o, none⟩) 32 32)).run Tryd.prog w = .ok (.pointer (some ⟨b, o, none⟩)) w := by kernel_rfl

set_option maxRecDepth 100000 in
set_option maxHeartbeats 4000000 in
theorem tid_no (rb : Nat) (l : List UInt8) (v : Value) (w : World) (h : RdS w rb l v) (hk : l.length < 32) :
    Calls Tryd.prog 48 #[.pointer (some ⟨rb, 0, none⟩)] w fun e w' => e = .panicked (thrown 20) ∧ Ext No w w' := by
  have H := Lib.hid h; have HK := Lib.hid hk
  clear h hk
  go_enter Tryd.func48, Tryd.ntmps48
  go_wp2_with fail
  refine (rraw_no 32 rb l v _ ⟨H.out.box.alloc _, H.out.row.ext0 ((Ext.refl No w).alloc _), H.out.apart⟩ HK.out).mono ?_
  rintro e w' ⟨rfl, rfl⟩
  dsimp only
  exact ⟨rfl, rfl, (Ext.refl No w).alloc _⟩

set_option maxRecDepth 100000 in
set_option maxHeartbeats 4000000 in
theorem tid_ok (rb : Nat) (l : List UInt8) (v : Value) (w : World) (h : RdS w rb l v) (hk : 32 ≤ l.length) :
    Calls Tryd.prog 48 #[.pointer (some ⟨rb, 0, none⟩)] w fun e w' => e = .returned (.agg (byts (l.take 32)).toArray) ∧ ∃ v', RdS w' rb (l.drop 32) v' ∧ Ext (fun j => j = rb) w w' ∧ Inn v v' := by
  have H := Lib.hid h; have HK := Lib.hid hk
  have hlt := h.box.lt
  have HLT := Lib.hid hlt
  clear h hk hlt
  go_enter Tryd.func48, Tryd.ntmps48
  go_wp2_with fail
  show Calls _ _ _ (w.alloc (.cells (byts zero32).toArray 40)) _
  refine (rraw_ok 32 rb l v _ ⟨H.out.box.alloc _, H.out.row.ext0 ((Ext.refl No w).alloc _), H.out.apart⟩ HK.out).mono ?_
  rintro e w' ⟨ax, rfl, hbx, v', hr, hx, hi, hi'⟩
  have hbn := (Blk.new w _ 40).ext hx (fun s => by have := HLT.out; omega)
  have hl32 : (l.take 32).length = 32 := by rw [List.length_take]; have := HK.out; omega
  obtain ⟨bb, oo, hax, -⟩ := IsBytes.get hbx 0 (by decide)
  subst hax
  have HL := Lib.hid (run_loadAt_mid (P := Tryd.prog) w' bb oo 40 (byts (l.take 32)) _ (bytes_range hbx) Tryd.underlying40 rfl (by rw [byts_length, hl32]; exact info40))
  have hsz : (byts (l.take 32)).toArray.size = 32 := by rw [List.size_toArray, byts_length, hl32]
  have HS := Lib.hid (store_row (ty := 40) (cs := (byts (l.take 32)).toArray) hbn (by rw [hsz]; exact info40) (by rw [hsz]; rfl) (one_byts _))
  have HBN := Lib.hid (setRow_blk (cs := (byts (l.take 32)).toArray) hbn)
  have hnr : w.heap.size ≠ rb := by have := HLT.out; omega
  have HX := Lib.hid (show Ext (fun j => j = rb) w (w'.setRow w.heap.size (byts (l.take 32)).toArray) from ((((Ext.refl _ w).alloc (.cells (byts zero32).toArray 40)).trans' hx).trans (setRow_ext w' w.heap.size _) (fun _ _ s => s) (fun j hj s => by omega)))
  have HR := Lib.hid (show RdS (w'.setRow w.heap.size (byts (l.take 32)).toArray) rb (l.drop 32) v' from ⟨hr.box.ext (setRow_ext w' w.heap.size _) (fun s => hnr s.symm), hr.row.ext (setRow_ext w' w.heap.size _) (fun j hj s => by
    have h1 := IsRow.lt H.out.row (by have := HK.out; omega) (hi' _ hj)
    omega), hr.apart⟩)
  have HI := Lib.hid hi'
  have har := array_at
  clear hbx hr hx hi hi' hbn
  dsimp only
  go_wp2_with (first | ((with_reducible refine wpList_load_at ?_ 40 _ rfl ?_ HL.out ?_); rfl; rfl) | ((with_reducible refine wpList_store_at ?_ 40 _ _ rfl ?_ ?_ HS.out ?_); rfl; rfl; rfl))
  refine bodyPost_ret (results_cell_row rfl _ _ w.heap.size 40 _ (0, 0) _ rfl HBN.out Tryd.underlying40 rfl (by rw [hsz]; exact info40)) rfl ?_
  exact ⟨rfl, v', HR.out, HX.out, HI.out⟩
end Go.Proofs.YtefabpgfhghpgaaDoor
end

section
/- The contract of tree.get. -/
namespace Go.Proofs.YtefabpgfhghpgaaDoor
open Go.RowKit Go.My

/-- a reader whose row is new -/
def RdN (w : World) (rb B : Nat) (l : List UInt8) (v : Value) : Prop := RdS w rb l v ∧ ∀ j, v.ownBlock = some j → B ≤ j ∧ ∃ cs, Blk w j cs 5
theorem RdN.next {w : World} {rb B : Nat} {l : List UInt8} {v : Value} (h : RdN w rb B l v) {w' : World} (hx : Ext (fun j => j = rb) w w') {r : List UInt8} {v' : Value} (hr : RdS w' rb r v') (hi : Inn v v') : RdN w' rb B r v' :=
  ⟨hr, fun j hj => by
    obtain ⟨h1, cs, h2⟩ := h.2 j (hi j hj)
    exact ⟨h1, cs, h2.ext hx (fun s => by subst s; exact Blk.ne_type h2 h.1.box (by decide) rfl)⟩⟩
theorem RdN.ext {w : World} {rb B : Nat} {l : List UInt8} {v : Value} (h : RdN w rb B l v) {w' : World} {S : Nat → Prop} (hx : Ext S w w') (hs : ∀ j cs T, Blk w j cs T → T = 5 ∨ T = 82 → ¬ S j) : RdN w' rb B l v := by
  obtain ⟨h1, h2⟩ := h
  refine ⟨⟨h1.box.ext hx (hs _ _ _ h1.box (.inr rfl)), h1.row.ext hx (fun j hj => ?_), h1.apart⟩, fun j hj => ?_⟩
  · obtain ⟨-, cs, hb⟩ := h2 j hj; exact hs _ _ _ hb (.inl rfl)
  · obtain ⟨hB, cs, hb⟩ := h2 j hj; exact ⟨hB, cs, hb.ext hx (hs _ _ _ hb (.inl rfl))⟩
theorem RdN.len {w : World} {rb B : Nat} {l : List UInt8} {v : Value} (h : RdN w rb B l v) : l.length ≤ 9223372036854775807 := by
  obtain ⟨_, _, he, h1, h2, -⟩ := h.1.row; omega

theorem bytesP_len {most : Nat} {l x r : List UInt8} (h : bytesP most l = some (x, r)) : x.length + r.length + 4 = l.length := by
  obtain ⟨rfl, -, -⟩ := bytesP_some h
  rw [List.length_append, bytesB_length]; omega


/-- sums, read -/
def idsP : Nat → List UInt8 → Option (List (List UInt8) × List UInt8)
  | 0, l => some ([], l)
  | n + 1, l => if 32 ≤ l.length then (idsP n (l.drop 32)).map fun z => (l.take 32 :: z.1, z.2) else none
theorem idsP_zero (l : List UInt8) : idsP 0 l = some ([], l) := rfl
theorem idsP_succ (n : Nat) (l : List UInt8) : idsP (n + 1) l = if 32 ≤ l.length then (idsP n (l.drop 32)).map fun z => (l.take 32 :: z.1, z.2) else none := rfl
/-- a node, read -/
def getP (l : List UInt8) : Option (NodeL × List UInt8) :=
  (numP 1 l).bind fun a => (bytesP 120 a.2).bind fun b =>
    if a.1 = 1 then (if 32 ≤ b.2.length then some (⟨b.1, true, 0, [], b.2.take 32⟩, b.2.drop 32) else none)
    else (numP 8 b.2).bind fun c => (numP 4 c.2).bind fun d => (idsP d.1 d.2).map fun z => (⟨b.1, false, wrap64 (c.1 : Int), z.1, zero32⟩, z.2)
theorem idsP_len : ∀ (n : Nat) (l r : List UInt8) (ps : List (List UInt8)), idsP n l = some (ps, r) → r.length ≤ l.length ∧ ps.length = n ∧ ∀ p ∈ ps, p.length = 32 := by
  intro n
  induction n with
  | zero => intro l r ps h; rw [idsP_zero] at h; cases h; exact ⟨Nat.le_refl _, rfl, fun p hp => by cases hp⟩
  | succ n ih =>
    intro l r ps h
    rw [idsP_succ] at h
    split at h
    · rename_i h32
      cases hz : idsP n (l.drop 32) with
      | none => rw [hz] at h; cases h
      | some z =>
        obtain ⟨qs, r2⟩ := z
        rw [hz] at h
        simp only [Option.map_some, Option.some.injEq, Prod.mk.injEq] at h
        obtain ⟨h1, h2, h3⟩ := ih _ _ _ hz
        rw [← h.1, ← h.2]
        rw [List.length_drop] at h1
        refine ⟨by omega, by rw [List.length_cons, h2], fun p hp => ?_⟩
        rcases List.mem_cons.1 hp with rfl | hp
        · rw [List.length_take]; omega
        · exact h3 p hp
    · cases h

/-- a row of sums of the call's own -/
def IdE (_ : World) (x : List UInt8) (us : List Value) : Prop := us = byts x ∧ x.length = 32
def OwnIDs (w : World) (B : Nat) (ids : List (List UInt8)) (v : Value) : Prop := OwnSeq w B 40 32 IdE ids v
theorem OwnIDs.ids {w : World} {B : Nat} {ids : List (List UInt8)} {v : Value} (h : OwnIDs w B ids v) : IsIDs w ids v := by
  obtain ⟨a, c, rfl⟩ := OwnSeq.len h
  have hc : ids.length ≤ c ∧ c ≤ 9223372036854775807 := by
    obtain ⟨us, h1, -⟩ := h
    rcases h1.2 with ⟨he, h0⟩ | ⟨g, cap, cur, he, -, -, h2, h3, -⟩
    · simp only [Value.slice.injEq] at he; omega
    · simp only [Value.slice.injEq] at he; unfold maxLen at h3; omega
  refine ⟨a, c, rfl, hc.1, hc.2, ⟨fun p hp => ?_, fun i hi => ?_⟩⟩
  · obtain ⟨i, hi, rfl⟩ := List.mem_iff_getElem.1 hp
    obtain ⟨us, -, h2⟩ := h
    exact (h2 i _ (List.getElem?_eq_getElem hi)).2
  · obtain ⟨b, us, rfl, ⟨he, h32⟩, hcs⟩ := OwnSeq.get h i _ (List.getElem?_eq_getElem hi)
    have e : ids.getD i [] = ids[i] := by simp [List.getD_eq_getElem?_getD, List.getElem?_eq_getElem hi]
    rw [e]
    refine ⟨b, 0, rfl, fun j v hv => ?_⟩
    have hj : j < 32 := by have := (List.getElem?_eq_some_iff.1 hv).1; rw [byts_length, h32] at this; exact this
    rw [Nat.zero_add, ← hcs j hj, he]
    exact hv
theorem OwnIDs.ext {w w' : World} {B : Nat} {ids : List (List UInt8)} {v : Value} {S : Nat → Prop} (h : OwnIDs w B ids v) (x : Ext S w w') (hs : ∀ j, v.ownBlock = some j → ¬ S j) : OwnIDs w' B ids v := OwnSeq.ext h x hs (fun _ _ h => h)
theorem OwnIDs.le {w : World} {B B' : Nat} {ids : List (List UInt8)} {v : Value} (h : OwnIDs w B ids v) (hb : B' ≤ B) : OwnIDs w B' ids v := by
  obtain ⟨us, h1, h2⟩ := h
  exact ⟨us, own_le h1 hb, h2⟩
/-- a node of the call's own -/
structure NodeO (w : World) (B : Nat) (n : NodeL) (cs : List Value) : Prop where
  cells : ∃ pv, cs = nodeV n pv ∧ OwnIDs w B n.parts pv
  sub : n.sub.length = 32
  lo : -9223372036854775808 ≤ n.size
  hi : n.size ≤ 9223372036854775807
def GetTold (rb B : Nat) (l : List UInt8) (v : Value) (e : Ending) (w' : World) : Prop :=
  (∃ n r v' cs, getP l = some (n, r) ∧ e = .returned (.agg cs.toArray) ∧ RdS w' rb r v' ∧ Inn v v' ∧ NodeO w' B n cs) ∨ (getP l = none ∧ ∃ n : Int, e = .panicked (thrown n) ∧ n ≠ 0)

/-- a reading of a node at work -/
structure GetS (w wr : World) (rb ob nb B : Nat) (cells : List Value) (l : List UInt8) (v : Value) : Prop where
  rd : RdN wr rb B l v
  out : ∃ Z : List Value, Z.length = 36 ∧ Blk wr ob Z.toArray 42
  box : Blk wr nb cells.toArray 42
  ext : Ext (fun j => j = rb) w wr
  obn : w.heap.size ≤ ob
  nbn : w.heap.size ≤ nb
  ne : ob ≠ nb
theorem GetS.read {w wr w2 : World} {rb ob nb B : Nat} {cells : List Value} {l r : List UInt8} {v v2 : Value} (h : GetS w wr rb ob nb B cells l v) (hx : Ext (fun j => j = rb) wr w2) (hr : RdS w2 rb r v2) (hi : Inn v v2) : GetS w w2 rb ob nb B cells r v2 := by
  obtain ⟨Z, hZ, hO⟩ := h.out
  exact ⟨h.rd.next hx hr hi, ⟨Z, hZ, hO.ext hx (Blk.ne_type hO h.rd.1.box (by decide))⟩, h.box.ext hx (Blk.ne_type h.box h.rd.1.box (by decide)), h.ext.trans' hx, h.obn, h.nbn, h.ne⟩
/-- the box is written -/
theorem GetS.upd {w wr w2 : World} {rb ob nb B : Nat} {cells cells2 : List Value} {l : List UInt8} {v : Value} (h : GetS w wr rb ob nb B cells l v) (hx : Ext (fun j => j = nb) wr w2) (hb : Blk w2 nb cells2.toArray 42) : GetS w w2 rb ob nb B cells2 l v := by
  obtain ⟨Z, hZ, hO⟩ := h.out
  refine ⟨h.rd.ext hx (fun j cs T hj hT s => ?_), ⟨Z, hZ, hO.ext hx h.ne⟩, hb, h.ext.trans hx (fun _ _ s => s) (fun j hj s => by have := h.nbn; omega), h.obn, h.nbn, h.ne⟩
  subst s
  rcases hT with rfl | rfl
  · exact Blk.ne_type hj h.box (by decide) rfl
  · exact Blk.ne_type hj h.box (by decide) rfl
/-- memory is added, or rows of sums of this call's own are written -/
theorem GetS.more {w wr w2 : World} {rb ob nb B : Nat} {cells : List Value} {l : List UInt8} {v : Value} {S : Nat → Prop} (h : GetS w wr rb ob nb B cells l v) (hx : Ext S wr w2) (hs : ∀ j, S j → w.heap.size ≤ j ∧ ∃ cs, Blk wr j cs 40) : GetS w w2 rb ob nb B cells l v := by
  obtain ⟨Z, hZ, hO⟩ := h.out
  have hne : ∀ (j : Nat) (cs : Array Value) (T : TypeId), Blk wr j cs T → T ≠ 40 → ¬ S j := fun j cs T hb hT s => by
    obtain ⟨-, cs', hb'⟩ := hs j s
    exact Blk.ne_type hb hb' hT rfl
  exact ⟨h.rd.ext hx (fun j cs T hj hT => hne j cs T hj (by rcases hT with rfl | rfl <;> decide)), ⟨Z, hZ, hO.ext hx (hne _ _ _ hO (by decide))⟩, h.box.ext hx (hne _ _ _ h.box (by decide)), h.ext.trans hx (fun _ _ s => s) (fun j hj s => by have := (hs j s).1; omega), h.obn, h.nbn, h.ne⟩

theorem fill_all : ∀ (cs pre zs : List Value), zs.length = cs.length → List.foldl (fun (a : Array Value) x => a.setIfInBounds x.snd x.fst) (pre ++ zs).toArray (cs.zipIdx pre.length) = (pre ++ cs).toArray := by
  intro cs
  induction cs with
  | nil => intro pre zs h; have : zs = [] := List.length_eq_zero_iff.1 h; subst this; rfl
  | cons c cs ih =>
    intro pre zs h
    cases zs with
    | nil => cases h
    | cons z zs =>
      rw [List.zipIdx_cons, List.foldl_cons]
      have e : (pre ++ z :: zs).toArray.setIfInBounds pre.length c = ((pre ++ [c]) ++ zs).toArray := by simp
      have h2 := ih (pre ++ [c]) zs (by simpa using h)
      rw [List.length_append, List.length_singleton, List.append_assoc pre [c] cs] at h2
      show List.foldl _ ((pre ++ z :: zs).toArray.setIfInBounds pre.length c) _ = _
      rw [e]
      exact h2
/-- a slice of one sum -/
theorem build_id (x : List UInt8) (hx : x.length = 32) (w : World) : (Instr.buildSlice 38 1 #[(0, .agg (byts x).toArray)]).run Tryd.prog w = .ok (.slice (some ⟨w.heap.size, 0, none⟩) 1 1) (w.alloc (.cells (byts x).toArray 40)) := by
  have hl : (byts x).length = 32 := by rw [byts_length, hx]
  generalize byts x = cs at *
  go_simp
  congr 2
  exact fill_all cs [] (byts zero32) (by rw [hl]; rfl)
section
variable {P : Program} {ops : Array Oper} {rest : List Oper} {o : Oper} {a : Act} {w w2 : World} {K : Act → World → Prop} {Q : Exit → Act → World → Prop} {E : Prop}
/-- an operation whose value is known, as one step of a region that draws its order -/
theorem step_exec (hgd : o.guard = none) {v : Value} (hl : (execOp a.eval o).run P w = .ok (.value v) w2) (h : K (a.put o.dst v) w2) : if Region.wanted o (yielded ops a.tmps) = true then Oper.wp P o a w K Q else E := by
  have hw : Region.wanted o (yielded ops a.tmps) = true := by simp [Region.wanted, hgd]
  rw [if_pos hw]
  unfold Oper.wp
  rw [hl]
  exact h
theorem exec_build {ρ : Operand → Value} {t : TypeId} {len : Nat} {y : Operand} {v0 v : Value} (ho : o.op = .buildSlice t len #[(0, y)]) (hp : ρ y = v0) (hl : (Instr.buildSlice t len #[(0, v0)]).run P w = .ok v w2) : (execOp ρ o).run P w = .ok (.value v) w2 := by
  unfold execOp
  simp only [ho]
  have e : ((#[(0, y)] : Array (Nat × Operand)).map fun (i, x) => (i, ρ x)) = #[(0, v0)] := by simp [hp]
  rw [e]
  simp only [Sem.run_bind, hl, Result.andThen_ok, Sem.run_pure]
/-- append of one element of several cells, as one step of a region that draws its order -/
theorem step_appS (w : World) (us : List Value) (size : Nat) (hsz : 0 < size) (hgd : o.guard = none) (s x : Operand) (t : TypeId)
    (ho : o.op = .call { callee := .builtin .append, args := #[s, x], argTypes := #[t, t] }) (base : Nat) (e : TypeId) (z : Value) (bytes : Nat)
    (hinfo : (P.info? e).map (fun i => (i.zero, i.size, i.bytes)) = some (some z, size, bytes)) (ht : P.underlying t = some (.slice e)) (hzs : z.cells.size = size)
    (v : Value) (n : Nat) (xs : List Value) (hs : a.eval s = v) (hown : w.ownsRow base e size v n xs) (b : Nat) (T : TypeId) (hx : a.eval x = .slice (some ⟨b, 0, none⟩) 1 1) (hb : Blk w b us.toArray T) (hl : us.length = size) (h1 : ∀ u ∈ us, u.oneCell' = true)
    (h63 : n + 1 ≤ 9223372036854775807) (hbytes : (n + 1) * bytes ≤ 140737488355328) (hbase : base ≤ w.heap.size)
    (h : ∀ v' w', w'.ownsRow base e size v' (n + 1) (xs ++ us) → w.grownBy w' v.ownBlock → K (a.put o.dst v') w') : if Region.wanted o (yielded ops a.tmps) = true then Oper.wp P o a w K Q else E := by
  have hw : Region.wanted o (yielded ops a.tmps) = true := by simp [Region.wanted, hgd]
  rw [if_pos hw]
  obtain ⟨i0, hi, hz0, hz1, hz2⟩ : ∃ i, P.info? e = some i ∧ i.zero = some z ∧ i.size = size ∧ i.bytes = bytes := by
    cases hi : P.info? e with
    | none => rw [hi] at hinfo; cases hinfo
    | some i => rw [hi] at hinfo; simp at hinfo; exact ⟨i, rfl, hinfo.1, hinfo.2.1, hinfo.2.2⟩
  refine wp_append_own w s x t ho base e i0 z size bytes ht hi hz0 hz1 hz2 hzs hsz v n xs hs hown ⟨b, 0, none⟩ 1 1 us hx (by omega) ?_ h1 (by unfold maxLen; omega) hbytes hbase fun v' w' h2 h3 _ => h v' w' h2 h3
  intro j y hj
  rw [addr_add, Nat.zero_add, hb.cell]
  simpa using hj
end
theorem id_info : (Tryd.prog.info? 40).map (fun i => (i.zero, i.size, i.bytes)) = some (some (.agg (byts zero32).toArray), 32, 32) := by kernel_rfl

end Go.Proofs.YtefabpgfhghpgaaDoor
end

section
/- The walk of tree.get. -/
namespace Go.Proofs.YtefabpgfhghpgaaDoor
open Go.RowKit Go.My

theorem nodeV_len (n : NodeL) (pv : Value) (h : n.sub.length = 32) : (nodeV n pv).length = 36 := by simp [nodeV, byts_length, h]
theorem nodeV_one (n : NodeL) (a : Option Addr) (m c : Nat) : (nodeV n (.slice a m c)).toArray.all (·.oneCell') = true := by
  refine all_oneCell_toArray fun v hv => ?_
  simp only [nodeV, List.mem_cons] at hv
  rcases hv with rfl | rfl | rfl | rfl | hv
  · rfl
  · rfl
  · rfl
  · rfl
  · unfold byts at hv
    obtain ⟨x, -, rfl⟩ := List.mem_map.1 hv
    rfl
theorem wrap64_bd (n : Int) : -9223372036854775808 ≤ wrap64 n ∧ wrap64 n ≤ 9223372036854775807 := by unfold wrap64; omega
set_option maxRecDepth 100000 in
set_option maxHeartbeats 8000000 in
theorem get_any (rb B : Nat) (l : List UInt8) (v : Value) (w : World) (h : RdN w rb B l v) (hB : B ≤ w.heap.size) (hl : l.length ≤ 1099511627776) :
    Calls Tryd.prog 28 #[.pointer (some ⟨rb, 0, none⟩)] w fun e w' => Ext (fun j => j = rb) w w' ∧ GetTold rb w.heap.size l v e w' := by
  have hx0 : Ext No w (w.alloc (.cells (nodeV node0 (.slice none 0 0)).toArray 42)) := (Ext.refl No w).alloc _
  have hO0 : Blk (w.alloc (.cells (nodeV node0 (.slice none 0 0)).toArray 42)) w.heap.size (nodeV node0 (.slice none 0 0)).toArray 42 := Blk.new w _ _
  have hr0 : RdN (w.alloc (.cells (nodeV node0 (.slice none 0 0)).toArray 42)) rb B l v := h.ext hx0 (fun _ _ _ _ _ s => s)
  obtain ⟨ob, hob⟩ : ∃ b, w.heap.size = b := ⟨_, rfl⟩
  obtain ⟨w0, hw0⟩ : ∃ w0, w.alloc (.cells (nodeV node0 (.slice none 0 0)).toArray 42) = w0 := ⟨_, rfl⟩
  rw [hw0] at hx0 hO0 hr0
  rw [hob] at hO0
  have hob0 : ob < w0.heap.size := hO0.lt
  have HX0 := Lib.hid hx0; have HO0 := Lib.hid hO0; have HR0 := Lib.hid hr0; have HOB := Lib.hid hob; have HW0 := Lib.hid hw0; have HB := Lib.hid hB; have HL := Lib.hid hl
  have HOB0 := Lib.hid hob0
  clear h hB hl hx0 hO0 hr0 hob hw0 hob0
  have hg : ∀ r, getP l = r → getP l = r := fun _ h => h
  have HG := Lib.hid (show getP l = (numP 1 l).bind fun a => (bytesP 120 a.2).bind fun b =>
    if a.1 = 1 then (if 32 ≤ b.2.length then some (⟨b.1, true, 0, [], b.2.take 32⟩, b.2.drop 32) else none)
    else (numP 8 b.2).bind fun c => (numP 4 c.2).bind fun d => (idsP d.1 d.2).map fun z => (⟨b.1, false, wrap64 (c.1 : Int), z.1, zero32⟩, z.2) from rfl)
  clear hg
  go_enter Tryd.func28, Tryd.ntmps28
  go_wp2_with fail
  show Calls _ _ _ (w.alloc (.cells (nodeV node0 (.slice none 0 0)).toArray 42)) _
  rw [HW0.out, HOB.out]
  by_cases h1 : 1 ≤ l.length
  case neg =>
    refine (rnum_no 1 (by decide) (by decide) rb l v w0 HR0.out.1 (by omega)).mono ?_
    rintro e w1 ⟨rfl, rfl⟩
    dsimp only
    have hn : numP 1 l = none := by unfold numP; rw [if_neg h1]
    exact ⟨rfl, HX0.out.mono (fun _ _ s => s.elim), .inr ⟨by rw [HG.out, hn]; rfl, 20, rfl, by decide⟩⟩
  refine (rnum_ok 1 (by decide) (by decide) rb l v w0 HR0.out.1 h1).mono ?_
  rintro e w1 ⟨rfl, v1, hr1, hx1, hi1⟩
  have hg1 : getP l = (bytesP 120 (l.drop 1)).bind fun b =>
    if getN (l.take 1) = 1 then (if 32 ≤ b.2.length then some (⟨b.1, true, 0, [], b.2.take 32⟩, b.2.drop 32) else none)
    else (numP 8 b.2).bind fun c => (numP 4 c.2).bind fun d => (idsP d.1 d.2).map fun z => (⟨b.1, false, wrap64 (c.1 : Int), z.1, zero32⟩, z.2) := by
      have hn : numP 1 l = some (getN (l.take 1), l.drop 1) := by unfold numP; rw [if_pos h1]
      rw [HG.out, hn]; rfl
  have hlt1 : getN (l.take 1) < 256 := by have := getN_lt (l.take 1); rw [List.length_take, Nat.min_eq_left h1] at this; exact this
  have hll : (l.drop 1).length ≤ 1099511627776 := by have := HL.out; rw [List.length_drop]; omega
  generalize getN (l.take 1) = d at *
  generalize l.drop 1 = l1 at *
  have HG1 := Lib.hid hg1; have HR1 := Lib.hid (HR0.out.next hx1 hr1 hi1); have HX1 := Lib.hid ((HX0.out.mono (T := fun j => j = rb) (fun _ _ s => s.elim)).trans' hx1); have HO1 := Lib.hid (HO0.out.ext hx1 (Blk.ne_type HO0.out HR0.out.1.box (by decide)))
  have HI1 := Lib.hid hi1; have HLL := Lib.hid hll; have HZ1 := Lib.hid (show ob < w1.heap.size by have := hx1.size; have := HOB0.out; omega)
  have hd64 : d ≤ 18446744073709551615 := by omega
  clear hg1 hr1 hx1 hi1 hll HG HR0 HX0 HO0 hlt1 h1 HOB0
  dsimp only
  go_wp2_with fail
  cases hbp : bytesP 120 l1 with
  | none =>
    refine (rtext_no 120 (by decide) rb l1 v1 w1 HR1.out.1 HR1.out.len hbp).mono ?_
    rintro e w2 ⟨n, rfl, hn0, hx2⟩
    dsimp only
    exact ⟨rfl, HX1.out.trans' hx2, .inr ⟨by rw [HG1.out, hbp]; rfl, n, rfl, hn0⟩⟩
  | some p =>
    obtain ⟨nm, r2⟩ := p
    have hlen2 := bytesP_len hbp
    refine (rtext_ok 120 (by decide) rb l1 nm r2 v1 w1 HR1.out.1 hbp).mono ?_
    rintro e w2 ⟨rfl, v2, hr2, hx2, hi2⟩
    have hg2 := HG1.out
    rw [hbp] at hg2
    simp only [Option.bind_some] at hg2
    have HG2 := Lib.hid hg2; have HR2 := Lib.hid (HR1.out.next hx2 hr2 hi2); have HX2 := Lib.hid (HX1.out.trans' hx2); have HO2 := Lib.hid (HO1.out.ext hx2 (Blk.ne_type HO1.out HR1.out.1.box (by decide)))
    have HI2 := Lib.hid (HI1.out.trans hi2); have HLL2 := Lib.hid (show r2.length ≤ 1099511627776 by have := HLL.out; omega); have HZ2 := Lib.hid (show ob < w2.heap.size by have := hx2.size; have := HZ1.out; omega)
    clear hg2 hr2 hx2 hi2 HG1 HR1 HX1 HO1 HI1 HLL HZ1 hlen2 hbp
    dsimp only
    have hdd : ∃ dd, decide (d = 1) = dd ∧ ((d : Int) == 1) = dd ∧ decide ((d : Int) = 1) = dd := ⟨_, rfl, by rw [Bool.eq_iff_iff]; simp; omega, by rw [Bool.eq_iff_iff]; simp; omega⟩
    obtain ⟨dd, hd1, hd2, hd3⟩ := hdd
    have HD1 := Lib.hid hd1
    clear hd1
    cases dd
    · skip
      have HS42 := Lib.hid (store_node w2 (nodeV ⟨nm, false, 0, [], zero32⟩ (.slice none 0 0)) rfl (nodeV_one _ _ _ _))
      have hx3 : Ext No w2 (w2.alloc (.cells (nodeV ⟨nm, false, 0, [], zero32⟩ (.slice none 0 0)).toArray 42)) := (Ext.refl No w2).alloc _
      have hB3 : Blk (w2.alloc (.cells (nodeV ⟨nm, false, 0, [], zero32⟩ (.slice none 0 0)).toArray 42)) w2.heap.size (nodeV ⟨nm, false, 0, [], zero32⟩ (.slice none 0 0)).toArray 42 := Blk.new w2 _ _
      have hgs : GetS w (w2.alloc (.cells (nodeV ⟨nm, false, 0, [], zero32⟩ (.slice none 0 0)).toArray 42)) rb ob w2.heap.size B (nodeV ⟨nm, false, 0, [], zero32⟩ (.slice none 0 0)) r2 v2 :=
        ⟨HR2.out.ext hx3 (fun _ _ _ _ _ s => s), ⟨_, rfl, HO2.out.ext hx3 (fun s => s)⟩, hB3, HX2.out.trans hx3 (fun _ _ s => s) (fun _ _ s => s.elim), Nat.le_of_eq HOB.out, HX2.out.size, by have := HZ2.out; omega⟩
      have hc1 : (w2.alloc (.cells (nodeV ⟨nm, false, 0, [], zero32⟩ (.slice none 0 0)).toArray 42)).cell? ⟨w2.heap.size, 1, none⟩ = some (.bool false) := hB3.cell 1
      obtain ⟨nb, hnb⟩ : ∃ b, w2.heap.size = b := ⟨_, rfl⟩
      obtain ⟨w3, hw3⟩ : ∃ w3, w2.alloc (.cells (nodeV ⟨nm, false, 0, [], zero32⟩ (.slice none 0 0)).toArray 42) = w3 := ⟨_, rfl⟩
      rw [hnb, hw3] at hgs
      have HNB := Lib.hid hnb; have HW3 := Lib.hid hw3; have HGS := Lib.hid hgs
      clear hx3 hB3 HR2 HX2 HO2 HZ2 hnb hw3 hgs
      go_wp2_with ((with_reducible refine wpList_store_at ?_ 42 _ _ rfl ?_ ?_ (HS42.out _ ?_) ?_); rfl; rfl; rfl; rfl)
      rw [HW3.out, HNB.out]
      clear hc1 HS42 HW3 HNB
      have hg3 := HG2.out
      rw [if_neg (of_decide_eq_false HD1.out)] at hg3
      by_cases h8 : 8 ≤ r2.length
      case neg =>
        have hn : numP 8 r2 = none := by unfold numP; rw [if_neg h8]
        rw [hn] at hg3
        have HG3 := Lib.hid hg3
        clear hg3 hn
        refine (rnum_no 8 (by decide) (by decide) rb r2 v2 w3 HGS.out.rd.1 (by omega)).mono ?_
        rintro e w4 ⟨rfl, rfl⟩
        dsimp only
        exact ⟨rfl, HGS.out.ext, .inr ⟨HG3.out, 20, rfl, by decide⟩⟩
      have hn : numP 8 r2 = some (getN (r2.take 8), r2.drop 8) := by unfold numP; rw [if_pos h8]
      rw [hn] at hg3
      simp only [Option.bind_some] at hg3
      have hsz64 : getN (r2.take 8) < 18446744073709551616 := by have := getN_lt (r2.take 8); rw [List.length_take, Nat.min_eq_left h8] at this; exact this
      have hl3 : (r2.drop 8).length ≤ 1099511627776 := by have := HLL2.out; rw [List.length_drop]; omega
      refine (rnum_ok 8 (by decide) (by decide) rb r2 v2 w3 HGS.out.rd.1 h8).mono ?_
      rintro e w4 ⟨rfl, v4, hr4, hx4, hi4⟩
      have hgs4 := HGS.out.read hx4 hr4 hi4
      generalize getN (r2.take 8) = sz at *
      generalize r2.drop 8 = r3 at *
      have hc2 := hgs4.box.cell 2; have hf2 := hgs4.box.free 2
      have hc2' : w4.cell? ⟨nb, 2, none⟩ = some (.int .i64 0) := hc2
      have HGS4 := Lib.hid hgs4; have HG3 := Lib.hid hg3; have HI4 := Lib.hid (HI2.out.trans hi4); have HL3 := Lib.hid hl3
      have hsz1 : sz ≤ 18446744073709551615 := by omega
      have hsz0 : (0 : Int) ≤ sz := by omega
      clear hc2 hn hg3 hr4 hx4 hi4 hgs4 HGS HI2 HLL2 HG2 h8 hl3 hsz64
      dsimp only
      go_wp2_with fail
      obtain ⟨w5, hw5⟩ : ∃ w5, w4.setCell ⟨nb, 2, none⟩ (.int .i64 (wrap64 (sz : Int))) = w5 := ⟨_, rfl⟩
      have hb5 : Blk w5 nb (nodeV ⟨nm, false, wrap64 (sz : Int), [], zero32⟩ (.slice none 0 0)).toArray 42 := by
        rw [← hw5]
        exact HGS4.out.box.set 2 _
      have HGS5 := Lib.hid (HGS4.out.upd (show Ext (fun j => j = nb) w4 w5 by rw [← hw5]; exact (Ext.refl _ w4).setCell _ _ (fun _ => rfl)) hb5)
      rw [hw5]
      have HSUB := Lib.hid (show zero32.length = 32 from rfl)
      have HSZB := Lib.hid (show -9223372036854775808 ≤ wrap64 (sz : Int) ∧ wrap64 (sz : Int) ≤ 9223372036854775807 from wrap64_bd _)
      clear hw5 hb5 HGS4 hc2' hf2
      by_cases h4 : 4 ≤ r3.length
      case neg =>
        have hn : numP 4 r3 = none := by unfold numP; rw [if_neg h4]
        have hg4 := HG3.out
        rw [hn] at hg4
        have HG4 := Lib.hid hg4
        clear hg4 hn
        refine (rnum_no 4 (by decide) (by decide) rb r3 v4 w5 HGS5.out.rd.1 (by omega)).mono ?_
        rintro e w6 ⟨rfl, rfl⟩
        dsimp only
        exact ⟨rfl, HGS5.out.ext, .inr ⟨HG4.out, 20, rfl, by decide⟩⟩
      have hn : numP 4 r3 = some (getN (r3.take 4), r3.drop 4) := by unfold numP; rw [if_pos h4]
      have hg4 := HG3.out
      rw [hn] at hg4
      simp only [Option.bind_some] at hg4
      have hcb : getN (r3.take 4) < 4294967296 := by have := getN_lt (r3.take 4); rw [List.length_take, Nat.min_eq_left h4] at this; exact this
      have hl4 : (r3.drop 4).length ≤ 1099511627776 := by have := HL3.out; rw [List.length_drop]; omega
      refine (rnum_ok 4 (by decide) (by decide) rb r3 v4 w5 HGS5.out.rd.1 h4).mono ?_
      rintro e w6 ⟨rfl, v6, hr6, hx6, hi6⟩
      have hgs6 := HGS5.out.read hx6 hr6 hi6
      generalize getN (r3.take 4) = cnt at *
      generalize r3.drop 4 = r4 at *
      have HGS6 := Lib.hid hgs6; have HG4 := Lib.hid hg4; have HI6 := Lib.hid (HI4.out.trans hi6); have HL4 := Lib.hid hl4
      have hc64 : cnt ≤ 18446744073709551615 := by omega
      clear hn hg4 hr6 hx6 hi6 hgs6 HGS5 HI4 HL3 HG3 h4 hl4
      dsimp only
      go_wp2_with fail
      go_loopw [24] (fun i wr => ∃ (k : Nat) (ps : List (List UInt8)) (rk : List UInt8) (vk pv : Value), i = .int .u64 k ∧ k ≤ cnt ∧ GetS w wr rb ob nb B (nodeV ⟨nm, false, wrap64 (sz : Int), [], zero32⟩ pv) rk vk ∧ OwnIDs wr w.heap.size ps pv ∧ ps.length = k ∧ Inn v vk ∧ 32 * k + rk.length ≤ r4.length ∧ idsP cnt r4 = (idsP (cnt - k) rk).map (fun z => (ps ++ z.1, z.2))) (fun i _ => cnt - (intOf i).toNat)
      case atStart =>
        refine ⟨0, [], r4, v6, .slice none 0 0, rfl, Nat.zero_le _, HGS6.out, OwnSeq.nil _ _ _ _ _, rfl, HI6.out, by omega, ?_⟩
        rw [Nat.sub_zero]
        cases idsP cnt r4 <;> rfl
      case round =>
        obtain ⟨k, ps, rk, vk, pv, rfl, hk, hgs, hown, hpl, hinn, hlen, hids⟩ := hrel
        obtain ⟨pa, pc, rfl⟩ := OwnSeq.len hown
        rw [hpl] at hgs hown
        have HD := Lib.hid hgs; have HO := Lib.hid hown; have HPL := Lib.hid hpl; have HIN := Lib.hid hinn; have HLE := Lib.hid hlen; have HID := Lib.hid hids
        clear hgs hown hpl hinn hlen hids HGS6 HI6
        by_cases hlt : k < cnt
        · obtain ⟨m, hm1⟩ : ∃ m, cnt - k = m + 1 := ⟨cnt - k - 1, by omega⟩
          have hltI : (k : Int) < cnt := by omega
          have hid := HID.out
          rw [hm1, idsP_succ] at hid
          have hc3 := HD.out.box.cell 3; have hf3 := HD.out.box.free 3
          have hc3' : wr.cell? ⟨nb, 3, none⟩ = some (.slice pa k pc) := hc3
          clear hc3
          by_cases h32 : 32 ≤ rk.length
          case neg =>
            rw [if_neg h32] at hid
            have HGN := Lib.hid (show getP l = none by rw [HG4.out, hid]; rfl)
            have H32 := Lib.hid (show rk.length < 32 by omega)
            have HDR := Lib.hid (show RdS wr.drew rb rk vk from ⟨HD.out.rd.1.box, HD.out.rd.1.row.ext0 ((Ext.refl No wr).drew), HD.out.rd.1.apart⟩)
            clear hid h32
            go_wp2_with fail
            go_region_dies
            all_goals
              refine (tid_no rb rk vk _ HDR.out H32.out).mono ?_
              rintro e w9 ⟨rfl, hx9⟩
              exact ⟨rfl, (HD.out.ext.drew).trans hx9 (fun _ _ s => s) (fun _ _ s => s.elim), .inr ⟨HGN.out, 20, rfl, by decide⟩⟩
          case pos =>
            rw [if_pos h32] at hid
            have hl32 : (rk.take 32).length = 32 := by rw [List.length_take]; omega
            have hrl : 32 + (rk.drop 32).length = rk.length := by rw [List.length_drop]; omega
            have HDD := Lib.hid (show RdS wr.drew rb rk vk from ⟨HD.out.rd.1.box, HD.out.rd.1.row.ext0 ((Ext.refl No wr).drew), HD.out.rd.1.apart⟩)
            have HGD := Lib.hid (HD.out.more ((Ext.refl No wr).drew) (fun j s => s.elim))
            have HOD := Lib.hid (HO.out.ext ((Ext.refl No wr).drew) (fun _ _ s => s))
            have H32 := Lib.hid h32; have HID2 := Lib.hid hid; have HL32 := Lib.hid hl32; have HRL := Lib.hid hrl
            have HTK := Lib.hid (tid_ok rb rk vk wr.drew HDD.out h32)
            generalize rk.take 32 = x at *
            generalize rk.drop 32 = r at *
            clear hid h32 hl32 hrl
            go_wp2_with fail
            have HNE := Lib.hid (show ∀ j, (Value.slice pa k pc).ownBlock = some j → ¬ j = rb from fun j hj s => by
              obtain ⟨cs, hb⟩ := OwnSeq.blk HOD.out hj
              subst s
              exact Blk.ne_type hb HGD.out.rd.1.box (by decide) rfl)
            have HBI := Lib.hid (build_id x HL32.out)
            have HP32 := Lib.hid (show 0 < 32 by decide)
            have HZ32 := Lib.hid (show (Value.agg (byts zero32).toArray).cells.size = 32 by rfl)
            have HBL := Lib.hid (show (byts x).length = 32 by rw [byts_length]; exact HL32.out)
            have HB1 := Lib.hid (show ∀ u ∈ byts x, u.oneCell' = true from fun u hu => by
              unfold byts at hu
              obtain ⟨y, -, rfl⟩ := List.mem_map.1 hu
              rfl)
            have HNM := Lib.hid (show k + 1 ≤ 9223372036854775807 ∧ (k + 1) * 32 ≤ 140737488355328 by have := HLE.out; have := HL4.out; omega)
            have hbl := HBL.out
            have hfill : ∀ Z : Array Value, Z.size = 32 → List.foldl (fun (a : Array Value) y => a.setIfInBounds y.snd y.fst) Z (byts x).zipIdx = (byts x).toArray := fun Z hZ => fill_all (byts x) [] Z.toList (by rw [HBL.out]; simpa using hZ)
            go_region_law (first
              | (go_simp; go_at_call 48; refine HTK.out.mono ?_; rintro e w2 ⟨rfl, v2, hr2, hx2, hi2⟩; have hd2 := HGD.out.read hx2 hr2 hi2; obtain ⟨us2, ho2, he2⟩ := HOD.out.ext hx2 HNE.out; have HI2 := Lib.hid hi2; have HD2 := Lib.hid hd2; have HD3 := Lib.hid (hd2.more ((Ext.refl No w2).alloc (.cells (byts x).toArray 40)) (fun j s => s.elim)); have hc2 : w2.cell? ⟨nb, 3, none⟩ = some (.slice pa k pc) := hd2.box.cell 3; have hf2 := hd2.box.free 3; have hc3b : (w2.alloc (.cells (byts x).toArray 40)).cell? ⟨nb, 3, none⟩ = some (.slice pa k pc) := HD3.out.box.cell 3; have HO3 := Lib.hid (ho2.alloc (.cells (byts x).toArray 40)); rw [HPL.out] at HO3; have HE2 := Lib.hid he2; clear hr2 hx2 hi2 hd2 ho2 he2)
              | (refine step_appS _ (byts x) 32 HP32.out rfl _ _ 38 rfl w.heap.size 40 _ _ id_info Tryd.underlying38 HZ32.out _ _ _ rfl HO3.out _ _ rfl (Blk.new w2 _ _) HBL.out HB1.out HNM.out.1 HNM.out.2 HD3.out.ext.size ?_; intro v' w7 hown7 hg7; obtain ⟨a7, c7, rfl⟩ := own_form hown7; have hd7 := HD3.out.more ((Ext.refl (fun j => (Value.slice pa k pc).ownBlock = some j) _).grown hg7 (fun j hj _ => hj)) (fun j s => ⟨(World.ownsRow.lt HO3.out j s).1, own_blkN HO3.out s⟩); have hc7 : w7.cell? ⟨nb, 3, none⟩ = some (.slice pa k pc) := hd7.box.cell 3; have hf7 := hd7.box.free 3; have HD7 := Lib.hid hd7; have HO7 := Lib.hid hown7; have HG7 := Lib.hid hg7; clear hown7 hg7 hd7))
            all_goals
              have hxs : Ext (fun j => j = nb) w7 (w7.setCell ⟨nb, 3, none⟩ (.slice a7 (k + 1) c7)) := (Ext.refl _ w7).setCell _ _ (fun _ => rfl)
              have hb9 : Blk (w7.setCell ⟨nb, 3, none⟩ (.slice a7 (k + 1) c7)) nb (nodeV ⟨nm, false, wrap64 (sz : Int), [], zero32⟩ (.slice a7 (k + 1) c7)).toArray 42 := HD7.out.box.set 3 _
              have HD9 := Lib.hid (HD7.out.upd hxs hb9)
              have HO9 : Hid (OwnIDs (w7.setCell ⟨nb, 3, none⟩ (.slice a7 (k + 1) c7)) w.heap.size (ps ++ [x]) (.slice a7 (k + 1) c7)) := Lib.hid (by
                have h := OwnSeq.app (E := IdE) (w := w2.alloc (.cells (byts x).toArray 40)) (w' := w7) (y := x) (by rw [HPL.out]; exact HO3.out) (fun i y hy => HE2.out i y hy) HBL.out ⟨rfl, HL32.out⟩ (fun _ _ h => h) (by rw [HPL.out]; exact HO7.out)
                exact OwnSeq.ext h hxs (fun j hj s => by
                  obtain ⟨cs, hb⟩ := OwnSeq.blk h hj
                  subst s
                  exact Blk.ne_type hb HD7.out.box (by decide) rfl) (fun _ _ h => h))
              clear hc7 hf7 hc2 hf2 hc3b hxs hb9
              go_wp2_with fail
              go_roundw
              case rel =>
                refine ⟨k + 1, ps ++ [x], r, v2, _, by go_num, by omega, HD9.out, HO9.out, by rw [List.length_append, HPL.out]; rfl, HIN.out.trans HI2.out, by have := HLE.out; have := HRL.out; omega, ?_⟩
                rw [HID2.out, show cnt - (k + 1) = m by omega]
                cases idsP m r <;> simp
              case measure => simp [intOf]; omega
        · have hkn : k = cnt := by omega
          subst hkn
          have hid := HID.out
          rw [Nat.sub_self, idsP_zero] at hid
          simp only [Option.map_some, List.append_nil] at hid
          have HGN := Lib.hid (show getP l = some (⟨nm, false, wrap64 (sz : Int), ps, zero32⟩, rk) by rw [HG4.out, hid]; rfl)
          clear hid
          obtain ⟨Z, hZ, hO⟩ := HD.out.out
          have HLN := Lib.hid (run_loadAt_mid (P := Tryd.prog) wr nb 0 42 (nodeV ⟨nm, false, wrap64 (sz : Int), [], zero32⟩ (.slice pa k pc)) _ (rangeAt.blk HD.out.box 0) Tryd.underlying42 rfl (by rw [nodeV_len _ _ HSUB.out]; exact info42))
          have hsz : (nodeV ⟨nm, false, wrap64 (sz : Int), [], zero32⟩ (.slice pa k pc)).toArray.size = 36 := by rw [List.size_toArray, nodeV_len _ _ HSUB.out]
          have HSO := Lib.hid (store_row (ty := 42) (cs := (nodeV ⟨nm, false, wrap64 (sz : Int), [], zero32⟩ (.slice pa k pc)).toArray) hO (by rw [hsz]; exact info42) (by rw [hsz, List.size_toArray, hZ]) (nodeV_one _ _ _ _))
          have HBO := Lib.hid (setRow_blk (cs := (nodeV ⟨nm, false, wrap64 (sz : Int), [], zero32⟩ (.slice pa k pc)).toArray) hO)
          have hxo := setRow_ext wr ob (nodeV ⟨nm, false, wrap64 (sz : Int), [], zero32⟩ (.slice pa k pc)).toArray
          have HXF := Lib.hid (show Ext (fun j => j = rb) w (wr.setRow ob (nodeV ⟨nm, false, wrap64 (sz : Int), [], zero32⟩ (.slice pa k pc)).toArray) from HD.out.ext.trans hxo (fun _ _ s => s) (fun j hj s => by have := HD.out.obn; omega))
          have HRF := Lib.hid (HD.out.rd.ext hxo (fun j cs T hj hT s => by
            subst s
            rcases hT with rfl | rfl
            · exact Blk.ne_type hj hO (by decide) rfl
            · exact Blk.ne_type hj hO (by decide) rfl))
          have HSZ := Lib.hid hsz
          have HXO := Lib.hid hxo
          have HBZ := Lib.hid hO
          clear hO hZ hsz hxo
          go_wp2_with (first | ((with_reducible refine wpList_load_at ?_ 42 _ rfl ?_ HLN.out ?_); rfl; rfl) | ((with_reducible refine wpList_store_at ?_ 42 _ _ rfl ?_ ?_ HSO.out ?_); rfl; rfl; rfl))
          refine bodyPost_ret (results_cell_row rfl _ _ ob 42 _ (0, 0) _ rfl HBO.out Tryd.underlying42 rfl (by rw [HSZ.out]; exact info42)) rfl ?_
          exact ⟨HXF.out, .inl ⟨⟨nm, false, wrap64 (sz : Int), ps, zero32⟩, _, _, _, HGN.out, rfl, HRF.out.1, HIN.out, ⟨⟨_, rfl, (HO.out.ext HXO.out (fun j hj s => by obtain ⟨cs, hb⟩ := OwnSeq.blk HO.out hj; subst s; exact Blk.ne_type hb HBZ.out (by decide) rfl)).le (Nat.le_refl _)⟩, HSUB.out, HSZB.out.1, HSZB.out.2⟩⟩⟩
    · skip
      have HS42 := Lib.hid (store_node w2 (nodeV ⟨nm, true, 0, [], zero32⟩ (.slice none 0 0)) rfl (nodeV_one _ _ _ _))
      have hx3 : Ext No w2 (w2.alloc (.cells (nodeV ⟨nm, true, 0, [], zero32⟩ (.slice none 0 0)).toArray 42)) := (Ext.refl No w2).alloc _
      have hB3 : Blk (w2.alloc (.cells (nodeV ⟨nm, true, 0, [], zero32⟩ (.slice none 0 0)).toArray 42)) w2.heap.size (nodeV ⟨nm, true, 0, [], zero32⟩ (.slice none 0 0)).toArray 42 := Blk.new w2 _ _
      have hgs : GetS w (w2.alloc (.cells (nodeV ⟨nm, true, 0, [], zero32⟩ (.slice none 0 0)).toArray 42)) rb ob w2.heap.size B (nodeV ⟨nm, true, 0, [], zero32⟩ (.slice none 0 0)) r2 v2 :=
        ⟨HR2.out.ext hx3 (fun _ _ _ _ _ s => s), ⟨_, rfl, HO2.out.ext hx3 (fun s => s)⟩, hB3, HX2.out.trans hx3 (fun _ _ s => s) (fun _ _ s => s.elim), Nat.le_of_eq HOB.out, HX2.out.size, by have := HZ2.out; omega⟩
      have hc1 : (w2.alloc (.cells (nodeV ⟨nm, true, 0, [], zero32⟩ (.slice none 0 0)).toArray 42)).cell? ⟨w2.heap.size, 1, none⟩ = some (.bool true) := hB3.cell 1
      obtain ⟨nb, hnb⟩ : ∃ b, w2.heap.size = b := ⟨_, rfl⟩
      obtain ⟨w3, hw3⟩ : ∃ w3, w2.alloc (.cells (nodeV ⟨nm, true, 0, [], zero32⟩ (.slice none 0 0)).toArray 42) = w3 := ⟨_, rfl⟩
      rw [hnb, hw3] at hgs
      have HNB := Lib.hid hnb; have HW3 := Lib.hid hw3; have HGS := Lib.hid hgs
      clear hx3 hB3 HR2 HX2 HO2 HZ2 hnb hw3 hgs
      go_wp2_with ((with_reducible refine wpList_store_at ?_ 42 _ _ rfl ?_ ?_ (HS42.out _ ?_) ?_); rfl; rfl; rfl; rfl)
      rw [HW3.out, HNB.out]
      clear hc1 HS42 HW3 HNB
      have hg3 := HG2.out
      rw [if_pos (of_decide_eq_true HD1.out)] at hg3
      by_cases h32 : 32 ≤ r2.length
      case neg =>
        rw [if_neg h32] at hg3
        have HG3 := Lib.hid hg3
        clear hg3
        refine (tid_no rb r2 v2 w3 HGS.out.rd.1 (by omega)).mono ?_
        rintro e w4 ⟨rfl, hx4⟩
        dsimp only
        exact ⟨rfl, HGS.out.ext.trans hx4 (fun _ _ s => s) (fun _ _ s => s.elim), .inr ⟨HG3.out, 20, rfl, by decide⟩⟩
      case pos =>
        rw [if_pos h32] at hg3
        have HG3 := Lib.hid hg3
        clear hg3
        have hl32 : (r2.take 32).length = 32 := by rw [List.length_take]; omega
        refine (tid_ok rb r2 v2 w3 HGS.out.rd.1 h32).mono ?_
        rintro e w4 ⟨rfl, v4, hr4, hx4, hi4⟩
        have hgs4 := HGS.out.read hx4 hr4 hi4
        generalize r2.take 32 = sub at *
        generalize r2.drop 32 = r4 at *
        have HS40 := Lib.hid (run_storeAt_mid (P := Tryd.prog) w4 nb 4 40 (byts sub).toArray (by rw [List.size_toArray, byts_length, hl32]; exact Blk.there hgs4.box 4 32 (Nat.le_refl _)) (by rw [List.size_toArray, byts_length, hl32]; exact info40) (one_byts _))
        have hb5 : Blk (w4.setCells nb 4 (byts sub)) nb (nodeV ⟨nm, true, 0, [], sub⟩ (.slice none 0 0)).toArray 42 := by
          have h := setCells_blk nb 42 (byts sub) w4 [.string (strB nm), .bool true, .int .i64 0, .slice none 0 0] (byts zero32) [] (by rw [List.append_nil]; exact hgs4.box) (by rw [byts_length, byts_length, hl32]; rfl)
          rw [List.append_nil] at h
          exact h
        have HGS5 := Lib.hid (hgs4.upd (setCells_ext nb (byts sub) w4 4) hb5)
        have HSUB := Lib.hid hl32
        have HI4 := Lib.hid (HI2.out.trans hi4)
        clear hr4 hx4 hi4 hgs4 hb5 hl32 HGS h32
        obtain ⟨Z, hZ, hO⟩ := HGS5.out.out
        have HLN := Lib.hid (run_loadAt_mid (P := Tryd.prog) (w4.setCells nb 4 (byts sub)) nb 0 42 (nodeV ⟨nm, true, 0, [], sub⟩ (.slice none 0 0)) _ (rangeAt.blk HGS5.out.box 0) Tryd.underlying42 rfl (by rw [nodeV_len _ _ HSUB.out]; exact info42))
        have hsz : (nodeV ⟨nm, true, 0, [], sub⟩ (.slice none 0 0)).toArray.size = 36 := by rw [List.size_toArray, nodeV_len _ _ HSUB.out]
        have HSO := Lib.hid (store_row (ty := 42) (cs := (nodeV ⟨nm, true, 0, [], sub⟩ (.slice none 0 0)).toArray) hO (by rw [hsz]; exact info42) (by rw [hsz, List.size_toArray, hZ]) (nodeV_one _ _ _ _))
        have HBO := Lib.hid (setRow_blk (cs := (nodeV ⟨nm, true, 0, [], sub⟩ (.slice none 0 0)).toArray) hO)
        have hxo := setRow_ext (w4.setCells nb 4 (byts sub)) ob (nodeV ⟨nm, true, 0, [], sub⟩ (.slice none 0 0)).toArray
        have HXF := Lib.hid (show Ext (fun j => j = rb) w ((w4.setCells nb 4 (byts sub)).setRow ob (nodeV ⟨nm, true, 0, [], sub⟩ (.slice none 0 0)).toArray) from HGS5.out.ext.trans hxo (fun _ _ s => s) (fun j hj s => by have := HGS5.out.obn; omega))
        have HRF := Lib.hid (HGS5.out.rd.ext hxo (fun j cs T hj hT s => by
          subst s
          rcases hT with rfl | rfl
          · exact Blk.ne_type hj hO (by decide) rfl
          · exact Blk.ne_type hj hO (by decide) rfl))
        have HSZ := Lib.hid hsz
        have HXO := Lib.hid hxo
        have HBZ := Lib.hid hO
        clear hO hZ hsz hxo
        dsimp only
        go_wp2_with (first | ((with_reducible refine wpList_store_at ?_ 40 _ _ rfl ?_ ?_ HS40.out ?_); rfl; rfl; rfl) | ((with_reducible refine wpList_load_at ?_ 42 _ rfl ?_ HLN.out ?_); rfl; rfl) | ((with_reducible refine wpList_store_at ?_ 42 _ _ rfl ?_ ?_ HSO.out ?_); rfl; rfl; rfl))
        refine bodyPost_ret (results_cell_row rfl _ _ ob 42 _ (0, 0) _ rfl HBO.out Tryd.underlying42 rfl (by rw [HSZ.out]; exact info42)) rfl ?_
        exact ⟨HXF.out, .inl ⟨⟨nm, true, 0, [], sub⟩, _, _, _, HG3.out, rfl, HRF.out.1, HI4.out, ⟨⟨_, rfl, OwnSeq.nil _ _ _ _ _⟩, HSUB.out, by show (-9223372036854775808 : Int) ≤ 0; decide, by show (0 : Int) ≤ 9223372036854775807; decide⟩⟩⟩
end Go.Proofs.YtefabpgfhghpgaaDoor
end

section
/- The walk of Decode's closure. -/
namespace Go.Proofs.YtefabpgfhghpgaaDoor
open Go.RowKit Go.My

theorem node_info : (Tryd.prog.info? 42).map (fun i => (i.zero, i.size, i.bytes)) = some (some (.agg (nodeV node0 (.slice none 0 0)).toArray), 36, 88) := by kernel_rfl
theorem numP_some' {k : Nat} {l r : List UInt8} {n : Nat} (h : numP k l = some (n, r)) : k ≤ l.length ∧ r.length + k = l.length := by
  unfold numP at h
  by_cases hk : k ≤ l.length
  · rw [if_pos hk] at h
    simp only [Option.some.injEq, Prod.mk.injEq] at h
    rw [← h.2, List.length_drop]
    omega
  · rw [if_neg hk] at h; cases h
theorem getP_some {l r : List UInt8} {n : NodeL} (h : getP l = some (n, r)) : r.length + 1 ≤ l.length ∧ n.name.length ≤ 120 := by
  unfold getP at h
  cases h1 : numP 1 l with
  | none => rw [h1] at h; cases h
  | some a =>
    obtain ⟨d, r1⟩ := a
    rw [h1] at h
    simp only [Option.bind_some] at h
    have e1 := numP_some' h1
    cases h2 : bytesP 120 r1 with
    | none => rw [h2] at h; cases h
    | some b =>
      obtain ⟨nm, r2⟩ := b
      rw [h2] at h
      simp only [Option.bind_some] at h
      have e2 := bytesP_len h2
      have e3 := (bytesP_some h2).2.1
      split at h
      · split at h
        · simp only [Option.some.injEq, Prod.mk.injEq] at h
          rw [← h.1, ← h.2, List.length_drop]
          exact ⟨by omega, e3⟩
        · cases h
      · cases h3 : numP 8 r2 with
        | none => rw [h3] at h; cases h
        | some c =>
          obtain ⟨sz, r3⟩ := c
          rw [h3] at h
          simp only [Option.bind_some] at h
          have e4 := numP_some' h3
          cases h4 : numP 4 r3 with
          | none => rw [h4] at h; cases h
          | some c =>
            obtain ⟨cnt, r4⟩ := c
            rw [h4] at h
            simp only [Option.bind_some] at h
            have e5 := numP_some' h4
            cases h5 : idsP cnt r4 with
            | none => rw [h5] at h; cases h
            | some z =>
              obtain ⟨ps, r5⟩ := z
              rw [h5] at h
              simp only [Option.map_some, Option.some.injEq, Prod.mk.injEq] at h
              have e6 := (idsP_len _ _ _ _ h5).1
              rw [← h.1, ← h.2]
              exact ⟨by omega, e3⟩
/-- nodes, read -/
def nodesK : Nat → List UInt8 → Option (List NodeL × List UInt8)
  | 0, l => some ([], l)
  | n + 1, l => (getP l).bind fun p => (nodesK n p.2).map fun z => (p.1 :: z.1, z.2)
theorem nodesK_zero (l : List UInt8) : nodesK 0 l = some ([], l) := rfl
theorem nodesK_succ (n : Nat) (l : List UInt8) : nodesK (n + 1) l = (getP l).bind fun p => (nodesK n p.2).map fun z => (p.1 :: z.1, z.2) := rfl
def nodesP (l : List UInt8) : Option (List NodeL × List UInt8) := (numP 4 l).bind fun a => nodesK a.1 a.2

theorem NodeO.ext {w w' : World} {B : Nat} {n : NodeL} {cs : List Value} {S : Nat → Prop} (h : NodeO w B n cs) (x : Ext S w w') (hs : ∀ j us, B ≤ j → Blk w j us 40 → ¬ S j) : NodeO w' B n cs := by
  obtain ⟨⟨pv, h1, h2⟩, h3, h4, h5⟩ := h
  exact ⟨⟨pv, h1, h2.ext x (fun j hj => by
    obtain ⟨us, hb⟩ := OwnSeq.blk h2 hj
    exact hs j us (OwnSeq.lt h2 j hj).1 hb)⟩, h3, h4, h5⟩
theorem NodeO.length {w : World} {B : Nat} {n : NodeL} {cs : List Value} (h : NodeO w B n cs) : cs.length = 36 := by
  obtain ⟨⟨pv, rfl, -⟩, h3, -, -⟩ := h
  exact nodeV_len n pv h3
theorem NodeO.one {w : World} {B : Nat} {n : NodeL} {cs : List Value} (h : NodeO w B n cs) : ∀ u ∈ cs, u.oneCell' = true := by
  obtain ⟨⟨pv, rfl, h2⟩, h3, -, -⟩ := h
  obtain ⟨a, c, rfl⟩ := OwnSeq.len h2
  have := nodeV_one n a n.parts.length c
  intro u hu
  exact (Array.all_eq_true_iff_forall_mem.1 this) u (by simpa using hu)
theorem NodeO.node {w : World} {B : Nat} {n : NodeL} {cs : List Value} (h : NodeO w B n cs) : IsNode w n cs := by
  obtain ⟨⟨pv, h1, h2⟩, h3, h4, h5⟩ := h
  exact ⟨⟨pv, h1, h2.ids⟩, h3, h4, h5⟩
/-- a row of nodes of the call's own -/
def OwnNodes (w : World) (B : Nat) (ns : List NodeL) (v : Value) : Prop := OwnSeq w B 42 36 (fun W n cs => NodeO W B n cs) ns v
theorem OwnNodes.ext {w w' : World} {B : Nat} {ns : List NodeL} {v : Value} {S : Nat → Prop} (h : OwnNodes w B ns v) (x : Ext S w w') (hs : ∀ j us T, B ≤ j → Blk w j us T → T = 40 ∨ T = 42 → ¬ S j) : OwnNodes w' B ns v :=
  OwnSeq.ext h x (fun j hj => by obtain ⟨us, hb⟩ := OwnSeq.blk h hj; exact hs j us _ (OwnSeq.lt h j hj).1 hb (.inr rfl)) (fun a us ha => ha.ext x (fun j us hj hb => hs j us _ hj hb (.inl rfl)))
theorem NodeO.le {w : World} {B B' : Nat} {n : NodeL} {cs : List Value} (h : NodeO w B n cs) (hb : B' ≤ B) : NodeO w B' n cs := by
  obtain ⟨⟨pv, h1, h2⟩, h3, h4, h5⟩ := h
  exact ⟨⟨pv, h1, h2.le hb⟩, h3, h4, h5⟩
theorem OwnNodes.le {w : World} {B B' : Nat} {ns : List NodeL} {v : Value} (h : OwnNodes w B ns v) (hb : B' ≤ B) : OwnNodes w B' ns v := by
  obtain ⟨us, h1, h2⟩ := h
  exact ⟨us, own_le h1 hb, fun i x hx => (h2 i x hx).le hb⟩
theorem OwnNodes.nodes {w : World} {B : Nat} {ns : List NodeL} {v : Value} (h : OwnNodes w B ns v) : IsNodes w ns v := by
  obtain ⟨a, c, rfl⟩ := OwnSeq.len h
  have hc : ns.length ≤ c ∧ c ≤ 9223372036854775807 := by
    obtain ⟨us, h1, -⟩ := h
    rcases h1.2 with ⟨he, h0⟩ | ⟨g, cap, cur, he, -, -, h2, h3, -⟩
    · simp only [Value.slice.injEq] at he; omega
    · simp only [Value.slice.injEq] at he; unfold maxLen at h3; omega
  refine ⟨a, c, rfl, hc.1, hc.2, ⟨fun i hi => ?_⟩⟩
  obtain ⟨b, us, rfl, hn, hcs⟩ := OwnSeq.get h i _ (List.getElem?_eq_getElem hi)
  have e : ns.getD i node0 = ns[i] := by simp [List.getD_eq_getElem?_getD, List.getElem?_eq_getElem hi]
  rw [e]
  refine ⟨b, 0, us, rfl, fun j v hv => ?_, hn.node⟩
  have hj : j < 36 := by have := (List.getElem?_eq_some_iff.1 hv).1; rw [hn.length] at this; exact this
  rw [Nat.zero_add, ← hcs j hj]
  exact hv
theorem get_ok (rb B : Nat) (l r : List UInt8) (n : NodeL) (v : Value) (w : World) (h : RdN w rb B l v) (hB : B ≤ w.heap.size) (hl : l.length ≤ 1099511627776) (hp : getP l = some (n, r)) :
    Calls Tryd.prog 28 #[.pointer (some ⟨rb, 0, none⟩)] w fun e w' => ∃ cs v', e = .returned (.agg cs.toArray) ∧ Ext (fun j => j = rb) w w' ∧ RdS w' rb r v' ∧ Inn v v' ∧ NodeO w' w.heap.size n cs := by
  refine (get_any rb B l v w h hB hl).mono ?_
  rintro e w' ⟨hx, ⟨n', r', v', cs, hp', rfl, hr, hi, hn⟩ | ⟨hp', -⟩⟩
  · rw [hp] at hp'; cases hp'
    exact ⟨cs, v', rfl, hx, hr, hi, hn⟩
  · rw [hp] at hp'; cases hp'
theorem get_no (rb B : Nat) (l : List UInt8) (v : Value) (w : World) (h : RdN w rb B l v) (hB : B ≤ w.heap.size) (hl : l.length ≤ 1099511627776) (hp : getP l = none) :
    Calls Tryd.prog 28 #[.pointer (some ⟨rb, 0, none⟩)] w fun e w' => ∃ n : Int, e = .panicked (thrown n) ∧ n ≠ 0 ∧ Ext (fun j => j = rb) w w' := by
  refine (get_any rb B l v w h hB hl).mono ?_
  rintro e w' ⟨hx, ⟨n', r', v', cs, hp', -⟩ | ⟨-, n, rfl, hn⟩⟩
  · rw [hp] at hp'; cases hp'
  · exact ⟨n, rfl, hn, hx⟩

/-- the list that is read: what its variable holds -/
def OutR (ob B : Nat) (ns : List NodeL) (w : World) : Prop := ∃ v, Blk w ob #[v] 22 ∧ OwnNodes w B ns v ∧ ∀ m ∈ ns, m.name.length ≤ 120
theorem OutR.err {ob B : Nat} {ns : List NodeL} {w w' : World} (h : OutR ob B ns w) (e : ErrExt w w') : OutR ob B ns w' := by
  obtain ⟨v, h1, h2, h3⟩ := h
  exact ⟨v, h1.ext e (fun ⟨cs, hb⟩ => Blk.ne_type h1 hb (by decide) rfl), h2.ext e (fun j us T _ hb hT ⟨cs, hb'⟩ => by
    rcases hT with rfl | rfl
    · exact Blk.ne_type hb hb' (by decide) rfl
    · exact Blk.ne_type hb hb' (by decide) rfl), h3⟩

structure DecSt (w1 wr : World) (rb ob B : Nat) (ns : List NodeL) (l : List UInt8) (v pv : Value) : Prop where
  rd : RdN wr rb B l v
  box : Blk wr ob #[pv] 22
  own : OwnNodes wr w1.heap.size ns pv
  nm : ∀ m ∈ ns, m.name.length ≤ 120
  ext : Ext (fun j => j = rb ∨ j = ob) w1 wr

theorem DecSt.drew {w1 wr : World} {rb ob B : Nat} {ns : List NodeL} {l : List UInt8} {v pv : Value} (h : DecSt w1 wr rb ob B ns l v pv) : DecSt w1 wr.drew rb ob B ns l v pv :=
  ⟨h.rd.ext ((Ext.refl No wr).drew) (fun _ _ _ _ _ s => s), h.box.drew, h.own.ext ((Ext.refl No wr).drew) (fun _ _ _ _ _ _ s => s), h.nm, h.ext.drew⟩
theorem DecSt.read {w1 wr w2 : World} {rb ob B : Nat} {ns : List NodeL} {l r : List UInt8} {v v2 pv : Value} (h : DecSt w1 wr rb ob B ns l v pv) (hx : Ext (fun j => j = rb) wr w2) (hr : RdS w2 rb r v2) (hi : Inn v v2) : DecSt w1 w2 rb ob B ns r v2 pv :=
  ⟨h.rd.next hx hr hi, h.box.ext hx (Blk.ne_type h.box h.rd.1.box (by decide)), h.own.ext hx (fun j us T _ hb hT s => by
    subst s
    rcases hT with rfl | rfl
    · exact Blk.ne_type hb h.rd.1.box (by decide) rfl
    · exact Blk.ne_type hb h.rd.1.box (by decide) rfl), h.nm, h.ext.trans hx (fun _ _ s => s) (fun _ _ s => .inl s)⟩
/-- a slice of one node -/
theorem fill36 (cs : List Value) (hl : cs.length = 36) : ∀ Z : Array Value, Z.size = 36 → List.foldl (fun (a : Array Value) y => a.setIfInBounds y.snd y.fst) Z cs.zipIdx = cs.toArray := fun Z hZ => fill_all cs [] Z.toList (by rw [hl]; simpa using hZ)

set_option maxRecDepth 100000 in
set_option maxHeartbeats 8000000 in
theorem dec1_reads (ob : Nat) (w : World) (hob : Blk w ob #[.slice none 0 0] 22) (l : List UInt8) (hl : l.length ≤ 1099511627776) :
    Reads 26 #[.pointer (some ⟨ob, 0, none⟩)] (fun j => j = ob) l nodesP (OutR ob w.heap.size) (fun W => ∃ ns, OutR ob w.heap.size ns W) w := by
  intro rb v w1 hx1 hrb hr hv
  show Calls _ _ #[.pointer (some ⟨rb, 0, none⟩), .pointer (some ⟨ob, 0, none⟩)] _ _
  have HOB := Lib.hid (hob.ext hx1 (fun s => s)); have HL := Lib.hid hl
  have HR := Lib.hid (show RdN w1 rb w.heap.size l v from ⟨hr, hv⟩); have HS1 := Lib.hid hx1.size
  obtain ⟨B, hB⟩ : ∃ B, w.heap.size = B := ⟨_, rfl⟩
  rw [hB] at HR HS1 ⊢
  clear hob hl hx1 hrb hr hv hB
  go_enter Tryd.func26, Tryd.ntmps26
  go_wp2_with fail
  by_cases h4 : 4 ≤ l.length
  case neg =>
    have hn : numP 4 l = none := by unfold numP; rw [if_neg h4]
    refine (rnum_no 4 (by decide) (by decide) rb l v w1 HR.out.1 (by omega)).mono ?_
    rintro e w2 ⟨rfl, rfl⟩
    dsimp only
    exact ⟨rfl, Ext.refl _ _, .inr ⟨by unfold nodesP; rw [hn]; rfl, ⟨[], _, HOB.out, OwnSeq.nil _ _ _ _ _, fun m hm => (by cases hm)⟩, 20, rfl, by decide⟩⟩
  have hn : numP 4 l = some (getN (l.take 4), l.drop 4) := by unfold numP; rw [if_pos h4]
  have hg4 : nodesP l = nodesK (getN (l.take 4)) (l.drop 4) := by unfold nodesP; rw [hn]; rfl
  have hcb : getN (l.take 4) < 4294967296 := by have := getN_lt (l.take 4); rw [List.length_take, Nat.min_eq_left h4] at this; exact this
  have hl4 : (l.drop 4).length ≤ 1099511627776 := by have := HL.out; rw [List.length_drop]; omega
  refine (rnum_ok 4 (by decide) (by decide) rb l v w1 HR.out.1 h4).mono ?_
  rintro e w2 ⟨rfl, v2, hr2, hx2, hi2⟩
  have hst2 : DecSt w1 w2 rb ob B [] (l.drop 4) v2 (.slice none 0 0) :=
    ⟨HR.out.next hx2 hr2 hi2, HOB.out.ext hx2 (Blk.ne_type HOB.out HR.out.1.box (by decide)), OwnSeq.nil _ _ _ _ _, fun m hm => (by cases hm), hx2.mono (fun _ _ s => .inl s)⟩
  generalize getN (l.take 4) = cnt at *
  generalize l.drop 4 = r4 at *
  have HST2 := Lib.hid hst2; have HG4 := Lib.hid hg4; have HL4 := Lib.hid hl4
  have hc64 : cnt ≤ 18446744073709551615 := by omega
  clear hn hg4 hr2 hx2 hi2 hst2 HR HOB h4 hl4
  dsimp only
  go_wp2_with fail
  go_loopw [5] (fun i wr => ∃ (k : Nat) (ns : List NodeL) (rk : List UInt8) (vk pv : Value), i = .int .u64 k ∧ k ≤ cnt ∧ DecSt w1 wr rb ob B ns rk vk pv ∧ ns.length = k ∧ k + rk.length ≤ r4.length ∧ nodesK cnt r4 = (nodesK (cnt - k) rk).map (fun z => (ns ++ z.1, z.2))) (fun i _ => cnt - (intOf i).toNat)
  case atStart =>
    refine ⟨0, [], r4, v2, .slice none 0 0, rfl, Nat.zero_le _, HST2.out, rfl, by omega, ?_⟩
    rw [Nat.sub_zero]
    cases nodesK cnt r4 <;> rfl
  case round =>
    obtain ⟨k, ns, rk, vk, pv, rfl, hk, hst, hpl, hlen, hids⟩ := hrel
    obtain ⟨pa, pc, rfl⟩ := OwnSeq.len hst.own
    rw [hpl] at hst
    have HD := Lib.hid hst; have HPL := Lib.hid hpl; have HLE := Lib.hid hlen; have HID := Lib.hid hids
    clear hst hpl hlen hids HST2
    by_cases hlt : k < cnt
    · obtain ⟨m, hm1⟩ : ∃ m, cnt - k = m + 1 := ⟨cnt - k - 1, by omega⟩
      have hltI : (k : Int) < cnt := by omega
      have hid := HID.out
      rw [hm1, nodesK_succ] at hid
      have hc0 : wr.cell? ⟨ob, 0, none⟩ = some (.slice pa k pc) := HD.out.box.cell 0
      have hf0 := HD.out.box.free 0
      have HBZ := Lib.hid (show B ≤ wr.drew.heap.size from Nat.le_trans HS1.out HD.out.ext.size)
      have HRD := Lib.hid (HD.out.rd.ext ((Ext.refl No wr).drew) (fun _ _ _ _ _ s => s))
      have HLK := Lib.hid (show rk.length ≤ 1099511627776 by have := HLE.out; have := HL4.out; omega)
      cases hp : getP rk with
      | none =>
        rw [hp] at hid
        have HGN := Lib.hid (show nodesP l = none by rw [HG4.out, hid]; rfl)
        have HP := Lib.hid hp
        clear hid hp
        go_wp2_with fail
        go_region_dies
        all_goals
          refine (get_no rb B rk vk _ HRD.out HBZ.out HLK.out HP.out).mono ?_
          rintro e w9 ⟨n9, rfl, hn9, hx9⟩
          exact ⟨rfl, (HD.out.ext.drew).trans hx9 (fun _ _ s => s) (fun _ _ s => .inl s), .inr ⟨HGN.out, ⟨ns, _, (HD.out.box.drew).ext hx9 (Blk.ne_type HD.out.box HD.out.rd.1.box (by decide)), ((HD.out.own.ext ((Ext.refl No wr).drew) (fun _ _ _ _ _ _ s => s)).ext hx9 (fun j us T _ hb hT s => by
            subst s
            rcases hT with rfl | rfl
            · exact Blk.ne_type hb HRD.out.1.box (by decide) rfl
            · exact Blk.ne_type hb HRD.out.1.box (by decide) rfl)).le HS1.out, HD.out.nm⟩, n9, rfl, hn9⟩⟩
      | some q =>
        obtain ⟨nd, r⟩ := q
        rw [hp] at hid
        simp only [Option.bind_some] at hid
        have hps := getP_some hp
        have HGT := Lib.hid (get_ok rb B rk r nd vk wr.drew HRD.out HBZ.out HLK.out hp)
        have HBW := Lib.hid (show w1.heap.size ≤ wr.drew.heap.size from HD.out.ext.size)
        have HPS := Lib.hid hps; have HID2 := Lib.hid hid
        have HDD := Lib.hid HD.out.drew
        have HZ36 := Lib.hid (show (Value.agg (nodeV node0 (.slice none 0 0)).toArray).cells.size = 36 by rfl)
        have HNM := Lib.hid (show k + 1 ≤ 9223372036854775807 ∧ (k + 1) * 88 ≤ 140737488355328 by have := HLE.out; have := HL4.out; omega)
        have HP36 := Lib.hid (show 0 < 36 by decide)
        clear hid hp hps
        go_wp2_with fail
        go_region_law (first
          | (go_simp; go_at_call 28; refine HGT.out.mono ?_; rintro e w2 ⟨cs, v2, rfl, hx2, hr2, hi2, hn2⟩; have hd2 := HDD.out.read hx2 hr2 hi2; obtain ⟨us2, ho2, he2⟩ := hd2.own; have HD2 := Lib.hid hd2; have hbl := hn2.length; have hfill := fill36 cs hbl; have HBL := Lib.hid hbl; have HB1 := Lib.hid hn2.one; have hc2 : w2.cell? ⟨ob, 0, none⟩ = some (.slice pa k pc) := hd2.box.cell 0; have hf2 := hd2.box.free 0; have HB3 := Lib.hid (hd2.box.alloc (.cells cs.toArray 42)); have hc3b : (w2.alloc (.cells cs.toArray 42)).cell? ⟨ob, 0, none⟩ = some (.slice pa k pc) := HB3.out.cell 0; have HO3 := Lib.hid (ho2.alloc (.cells cs.toArray 42)); rw [HPL.out] at HO3; have HE2 := Lib.hid he2; have HN2 := Lib.hid (hn2.le HBW.out); have HSZ3 := Lib.hid (Nat.le_trans (Nat.le_trans HBW.out hx2.size) ((Ext.refl No w2).alloc (.cells cs.toArray 42)).size); clear hr2 hx2 hi2 hd2 ho2 he2 hn2)
          | (refine step_appS _ cs 36 HP36.out rfl _ _ 22 rfl w1.heap.size 42 _ _ node_info Tryd.underlying22 HZ36.out _ _ _ rfl HO3.out _ _ rfl (Blk.new w2 _ _) HBL.out HB1.out HNM.out.1 HNM.out.2 HSZ3.out ?_; intro v' w7 hown7 hg7; obtain ⟨a7, c7, rfl⟩ := own_form hown7; have hb7 := HB3.out.grown hg7 (fun e => (own_blkN HO3.out e).elim (fun cs hb => Blk.ne_type hb HB3.out (by decide) rfl)); have hc7 := hb7.cell 0; have hf7 := hb7.free 0; simp only [List.getElem?_toArray, List.getElem?_cons_zero] at hc7; have HB7 := Lib.hid hb7; have HO7 := Lib.hid hown7; have HG7 := Lib.hid hg7; clear hown7 hg7 hb7))
        all_goals
          have hx7 : Ext (fun j => (Value.slice pa k pc).ownBlock = some j) w2 w7 := ((Ext.refl _ w2).alloc _).grown HG7.out (fun j hj _ => hj)
          have hb9 := HB7.out.set 0 (.slice a7 (k + 1) c7)
          have hxs : Ext (fun j => j = ob) w7 (w7.setCell ⟨ob, 0, none⟩ (.slice a7 (k + 1) c7)) := (Ext.refl _ w7).setCell _ _ (fun _ => rfl)
          have hown : ∀ j us T, Blk w2 j us T → T ≠ 42 → ¬ (Value.slice pa k pc).ownBlock = some j := fun j us T hb hT s => by
            obtain ⟨us', hb'⟩ := OwnSeq.blk HD2.out.own s
            exact Blk.ne_type hb hb' hT rfl
          have hO : OwnNodes w7 w1.heap.size (ns ++ [nd]) (.slice a7 (k + 1) c7) := by
            refine OwnSeq.app (E := fun W n cs => NodeO W w1.heap.size n cs) (w := w2.alloc (.cells cs.toArray 42)) (w' := w7) (y := nd) (by rw [HPL.out]; exact HO3.out) (fun i y hy => (HE2.out i y hy).ext ((Ext.refl No w2).alloc _) (fun _ _ _ _ s => s)) HBL.out (HN2.out.ext hx7 (fun j us _ hb => hown j us _ hb (by decide))) (fun b us hb => ?_) (by rw [HPL.out]; exact HO7.out)
            refine hb.ext ((Ext.refl (fun j => (Value.slice pa k pc).ownBlock = some j) _).grown HG7.out (fun j hj _ => hj)) (fun j us _ hb s => ?_)
            obtain ⟨us', hb'⟩ := own_blkN HO3.out s
            exact Blk.ne_type hb hb' (by decide) rfl
          have HD9 := Lib.hid (show DecSt w1 (w7.setCell ⟨ob, 0, none⟩ (.slice a7 (k + 1) c7)) rb ob B (ns ++ [nd]) r v2 (.slice a7 (k + 1) c7) from
            ⟨(HD2.out.rd.ext hx7 (fun j us T hb hT => hown j us T hb (by rcases hT with rfl | rfl <;> decide))).ext hxs (fun j us T hb hT s => by
                subst s
                rcases hT with rfl | rfl
                · exact Blk.ne_type hb HB7.out (by decide) rfl
                · exact Blk.ne_type hb HB7.out (by decide) rfl), hb9, hO.ext hxs (fun j us T _ hb hT s => by
                subst s
                rcases hT with rfl | rfl
                · exact Blk.ne_type hb HB7.out (by decide) rfl
                · exact Blk.ne_type hb HB7.out (by decide) rfl), fun m hm => by
                rcases List.mem_append.1 hm with h | h
                · exact HD2.out.nm m h
                · rw [List.mem_singleton.1 h]; exact HPS.out.2, (HD2.out.ext.trans hx7 (fun _ _ s => s) (fun j hj s => by
                have := (OwnSeq.lt HD2.out.own j s).1
                omega)).trans hxs (fun _ _ s => s) (fun _ _ s => .inr s)⟩)
          clear hx7 hb9 hxs hown hO hc7 hf7 hc2 hf2 hc3b
          go_wp2_with fail
          go_roundw
          case rel =>
            refine ⟨k + 1, ns ++ [nd], r, v2, _, by go_num, by omega, HD9.out, by rw [List.length_append, HPL.out]; rfl, by have := HLE.out; have := HPS.out.1; omega, ?_⟩
            rw [HID2.out, show cnt - (k + 1) = m by omega]
            cases nodesK m r <;> simp
          case measure => simp [intOf]; omega
    · have hkn : k = cnt := by omega
      subst hkn
      have hid := HID.out
      rw [Nat.sub_self, nodesK_zero] at hid
      simp only [Option.map_some, List.append_nil] at hid
      have HGN := Lib.hid (show nodesP l = some (ns, rk) by rw [HG4.out, hid])
      clear hid
      go_wp2_with fail
      go_end0
      exact ⟨HD.out.ext, .inl ⟨ns, rk, vk, HGN.out, rfl, HD.out.rd.1, _, HD.out.box, HD.out.own.le HS1.out, HD.out.nm⟩⟩
end Go.Proofs.YtefabpgfhghpgaaDoor
end

section
/- The contract of tree.Decode. -/
namespace Go.Proofs.YtefabpgfhghpgaaDoor
open Go.RowKit Go.My

/-- the list that bytes are of, if they are of one -/
def decT (l : List UInt8) : Option (List NodeL) :=
  if unsC 84 l = 0 then (nodesP (innerB l)).bind fun a => if a.2 = [] ∧ nodesE a.1 = 0 ∧ encB a.1 = l then some a.1 else none else none
def decE (l : List UInt8) : Int := if unsC 84 l = 0 then (match decT l with | some _ => 0 | none => 21) else unsC 84 l
def DecTold (l : List UInt8) (w : World) (e : Ending) (w' : World) : Prop :=
  Ext No w w' ∧ ((∃ ns v, decT l = some ns ∧ e = .returned (.tuple #[v, .int .i64 0]) ∧ OwnNodes w' w.heap.size ns v ∧ ∀ m ∈ ns, m.name.length ≤ 120) ∨ (decT l = none ∧ e = .returned (.tuple #[.slice none 0 0, .int .i64 (decE l)])))

set_option maxRecDepth 100000 in
set_option maxHeartbeats 1000000 in
theorem equal_any (l k : List UInt8) (a b : Option Addr) (n c m d : Nat) (w : World) (h1 : IsBytes w l (.slice a n c)) (h2 : IsBytes w k (.slice b m d)) :
    Calls Tryd.prog 29 #[.slice a n c, .slice b m d] w fun e w' => e = .returned (.bool (decide (l = k))) ∧ w = w' := by
  have c1 := conv_bytes l a n c w h1
  have c2 := conv_bytes k b m d w h2
  have heq := strB_eq l k
  generalize decide (l = k) = t at *
  clear h1 h2
  go_enter Tryd.func29, Tryd.ntmps29
  go_wp2_with fail
  go_ret
  exact ⟨rfl, rfl⟩
theorem unseal84_any (l : List UInt8) (v : Value) (w : World) (hv : IsBytes w l v) (hl : l.length + 100 ≤ 1099511627776) :
    Calls Tryd.prog 24 #[.int .u8 84, v] w (UnsTold 84 l w) := by
  have h := unseal_any 84 l v w hv hl
  rw [k84] at h
  exact h

set_option maxRecDepth 100000 in
set_option maxHeartbeats 8000000 in
theorem tdecode_any (l : List UInt8) (v : Value) (w : World) (hv : IsBytes w l v) (hl : l.length + 100 ≤ 1099511627776) :
    Calls Tryd.prog 10 #[v] w (DecTold l w) := by
  have HU := Lib.hid (unseal84_any l v w hv hl)
  obtain ⟨a, c, rfl, hc1, hc2, -⟩ := id hv
  obtain ⟨n, hn⟩ : ∃ n, n = l.length := ⟨_, rfl⟩
  rw [← hn] at hv hc1 HU ⊢
  have HV := Lib.hid hv; have HL := Lib.hid (show n + 100 ≤ 1099511627776 by rw [hn]; exact hl); have HN := Lib.hid hn
  have HDT := Lib.hid (show decT l = if unsC 84 l = 0 then (nodesP (innerB l)).bind fun a => if a.2 = [] ∧ nodesE a.1 = 0 ∧ encB a.1 = l then some a.1 else none else none from rfl)
  have HDE := Lib.hid (show decE l = if unsC 84 l = 0 then (match decT l with | some _ => 0 | none => 21) else unsC 84 l from rfl)
  clear hv hl hn
  go_enter Tryd.func10, Tryd.ntmps10
  go_wp2_with fail
  refine HU.out.mono ?_
  rintro e w1 ⟨hx1, ⟨hu, x1, rfl, ho1⟩ | ⟨hu, rfl⟩⟩
  case inr =>
    have HX1 := Lib.hid hx1
    have hu2 : (unsC 84 l == 0) = false := by simpa using hu
    have hdt := HDT.out; have hde := HDE.out
    rw [if_neg hu] at hdt hde
    have HDT2 := Lib.hid hdt; have HDE2 := Lib.hid hde
    clear hx1 HDT HDE HU hdt hde
    generalize unsC 84 l = uc at *
    dsimp only
    go_wp2_with fail
    go_ret2
    exact ⟨HX1.out, .inr ⟨HDT2.out, by rw [HDE2.out]; rfl⟩⟩
  case inl =>
    have hdt := HDT.out; have hde := HDE.out
    rw [if_pos hu] at hdt hde
    have hb1 := ho1.bytes
    have hil : (innerB l).length ≤ 1099511627776 := by
      unfold innerB; rw [List.length_drop, List.length_take]; have := HL.out; have := HN.out; omega
    obtain ⟨a1, c1, rfl⟩ := own_form ho1
    obtain ⟨n1, hn1⟩ : ∃ n, n = (innerB l).length := ⟨_, rfl⟩
    rw [← hn1] at hb1 ⊢
    have hx2 : Ext No w1 (w1.alloc (.cells #[.slice none 0 0] 22)) := (Ext.refl No w1).alloc _
    have hob : Blk (w1.alloc (.cells #[.slice none 0 0] 22)) w1.heap.size #[.slice none 0 0] 22 := Blk.new w1 _ _
    obtain ⟨w2, hw2⟩ : ∃ w2, w1.alloc (.cells #[.slice none 0 0] 22) = w2 := ⟨_, rfl⟩
    obtain ⟨ob, hobe⟩ : ∃ b, w1.heap.size = b := ⟨_, rfl⟩
    rw [hw2] at hx2 hob
    rw [hobe] at hob
    have hol := hob.lt
    have HDC := Lib.hid (decode_any 26 #[.pointer (some ⟨ob, 0, none⟩)] (fun j => j = ob) (innerB l) nodesP (OutR ob w2.heap.size) (fun W => ∃ ns, OutR ob w2.heap.size ns W) (fun a A h => ⟨a, h⟩) (fun A B ⟨ns, h⟩ e => ⟨ns, h.err e⟩) a1 n1 c1 w2
      (fun _ _ => by kernel_rfl) (dec1_reads ob w2 hob (innerB l) hil) (fun j hj => by omega) (hb1.ext0 hx2) hil (fun _ _ _ h e => h.err e))
    have HX2 := Lib.hid (hx1.trans' hx2); have HDT2 := Lib.hid hdt; have HDE2 := Lib.hid hde; have HW2 := Lib.hid hw2; have HOB := Lib.hid hobe; have HOL := Lib.hid (show w.heap.size ≤ ob by rw [← hobe]; exact hx1.size)
    have hmf := mkf
    clear hx1 HDT HDE HU hdt hde hb1 ho1 hil hn1 hx2 hob hw2 hobe hol hu
    dsimp only
    go_wp2_with fail
    rw [HW2.out, HOB.out]
    refine HDC.out.mono ?_
    rintro e w3 ⟨r, rfl, htold, hx3⟩
    have hout : ∃ ns, OutR ob w2.heap.size ns w3 ∧ (r = 0 → nodesP (innerB l) = some (ns, [])) ∧ (r ≠ 0 → ∀ ns, nodesP (innerB l) ≠ some (ns, [])) := by
      rcases htold with ⟨h0, ns, hp, hr⟩ | ⟨h0, hno, ns, hr⟩
      · exact ⟨ns, hr, fun _ => hp, fun h => absurd h0 h⟩
      · exact ⟨ns, hr, fun h => absurd h h0, fun _ => hno⟩
    obtain ⟨ns, ⟨v, hbv, hov, hnv⟩, hr0, hr1⟩ := hout
    obtain ⟨av, cv, rfl⟩ := OwnSeq.len hov
    have HEN := Lib.hid (tencode_any ns _ w3 hov.nodes (fun m hm => by have := hnv m hm; omega))
    obtain ⟨nv, hnve⟩ : ∃ n, n = ns.length := ⟨_, rfl⟩
    rw [← hnve] at hbv hov HEN
    have hcv : w3.cell? ⟨ob, 0, none⟩ = some (.slice av nv cv) := hbv.cell 0
    have HX3 := Lib.hid (HX2.out.trans hx3 (fun _ _ s => s) (fun j hj s => by have := HOL.out; omega)); have HOV := Lib.hid hov; have HBV := Lib.hid hbv; have HR0 := Lib.hid hr0; have HR1 := Lib.hid hr1; have HNV := Lib.hid hnv
    clear htold hx3 hov hbv hr0 hr1 hnve hnv HDC
    dsimp only
    go_wp2_with fail
    refine HEN.out.mono ?_
    rintro e w4 ⟨hx4, henc⟩
    have HX5 := Lib.hid (HX3.out.trans' hx4)
    have hcv4 : w4.cell? ⟨ob, 0, none⟩ = some (.slice av nv cv) := (HBV.out.ext hx4 (fun s => s)).cell 0
    have HOV4 := Lib.hid (HOV.out.ext hx4 (fun _ _ _ _ _ _ s => s))
    clear hx4 HX3 HEN hcv HBV HOV
    by_cases hr : r = 0
    case neg =>
      have hrb : (r == 0) = false := by simpa using hr
      have hdt : decT l = none := by
        rw [HDT2.out]
        have h := HR1.out hr
        cases hp : nodesP (innerB l) with
        | none => rfl
        | some a =>
          obtain ⟨ns', rest⟩ := a
          simp only [Option.bind_some]
          rw [if_neg]
          rintro ⟨h1, -, -⟩
          exact h ns' (by rw [hp, h1])
      have hde : decE l = 21 := by rw [HDE2.out, hdt]
      have HDE3 := Lib.hid hde; have HDT3 := Lib.hid hdt
      clear hdt hde
      rcases henc with ⟨-, x, rfl, hox⟩ | ⟨hne, rfl⟩
      · obtain ⟨ax, cx, rfl⟩ := own_form hox
        clear hox
        dsimp only
        go_wp2_with fail
        go_ret2
        exact ⟨HX5.out, .inr ⟨HDT3.out, by rw [HDE3.out]; rfl⟩⟩
      · generalize nodesE ns = ne at *
        clear hne
        dsimp only
        go_wp2_with fail
        go_ret2
        exact ⟨HX5.out, .inr ⟨HDT3.out, by rw [HDE3.out]; rfl⟩⟩
    case pos =>
      subst hr
      have hp := HR0.out rfl
      have hdt2 := HDT2.out
      rw [hp] at hdt2
      simp only [Option.bind_some, true_and] at hdt2
      have HDT3 := Lib.hid hdt2
      clear hdt2 hp
      rcases henc with ⟨hne, x, rfl, hox⟩ | ⟨hne, rfl⟩
      · have hbx := hox.bytes
        obtain ⟨ax, cx, rfl⟩ := own_form hox
        obtain ⟨nx, hnx⟩ : ∃ n, n = (encB ns).length := ⟨_, rfl⟩
        rw [← hnx] at hbx ⊢
        have HEQ := Lib.hid (equal_any (encB ns) l ax _ nx cx _ _ w4 hbx (HV.out.ext0 HX5.out))
        have hdt3 := HDT3.out
        rw [hne] at hdt3
        simp only [true_and] at hdt3
        have HD4 := Lib.hid hdt3
        obtain ⟨t, ht⟩ : ∃ t, t = decide (encB ns = l) := ⟨_, rfl⟩
        rw [← ht] at HEQ
        have HT := Lib.hid ht
        clear hox hbx hnx hdt3 hne ht
        dsimp only
        go_wp2_with fail
        refine HEQ.out.mono ?_
        rintro e w5 ⟨rfl, rfl⟩
        dsimp only
        cases t
        · have hdt : decT l = none := by rw [HD4.out, if_neg (of_decide_eq_false HT.out.symm)]
          have hde : decE l = 21 := by rw [HDE2.out, hdt]
          have HDE3 := Lib.hid hde; have HDT5 := Lib.hid hdt
          clear hdt hde
          go_wp2_with fail
          go_ret2
          exact ⟨HX5.out, .inr ⟨HDT5.out, by rw [HDE3.out]; rfl⟩⟩
        · have hdt : decT l = some ns := by rw [HD4.out, if_pos (of_decide_eq_true HT.out.symm)]
          have HDT5 := Lib.hid hdt
          clear hdt
          go_wp2_with fail
          go_ret2
          exact ⟨HX5.out, .inl ⟨ns, _, HDT5.out, rfl, HOV4.out.le (by have := HX2.out.size; omega), HNV.out⟩⟩
      · have hdt : decT l = none := by
          rw [HDT3.out, if_neg]
          rintro ⟨h1, -⟩
          exact hne h1
        have hde : decE l = 21 := by rw [HDE2.out, hdt]
        have HDE3 := Lib.hid hde; have HDT5 := Lib.hid hdt
        have hneb : (nodesE ns == 0) = false := by simpa using hne
        generalize nodesE ns = ne at *
        clear hdt hde
        dsimp only
        go_wp2_with fail
        go_ret2
        exact ⟨HX5.out, .inr ⟨HDT5.out, by rw [HDE3.out]; rfl⟩⟩
end Go.Proofs.YtefabpgfhghpgaaDoor
end

section
/- The contract of tree.Find. -/
namespace Go.Proofs.YtefabpgfhghpgaaDoor
open Go.RowKit Go.My

/-- the number of the first node of a name -/
def findN (ns : List NodeL) (nm : List UInt8) : Nat → Option Nat
  | 0 => none
  | k + 1 => match findN ns nm k with
    | some i => some i
    | none => if (ns.getD k node0).name = nm then some k else none
theorem findN_none {ns : List NodeL} {nm : List UInt8} : ∀ {k : Nat}, findN ns nm k = none ↔ ∀ j, j < k → (ns.getD j node0).name ≠ nm := by
  intro k
  induction k with
  | zero => exact ⟨fun _ j hj => absurd hj (Nat.not_lt_zero _), fun _ => rfl⟩
  | succ k ih =>
    rw [findN]
    cases hf : findN ns nm k with
    | some i =>
      simp only [reduceCtorEq, false_iff]
      intro h
      have := ih.2 (fun j hj => h j (by omega))
      rw [hf] at this; cases this
    | none =>
      simp only
      have h0 := ih.1 hf
      by_cases he : (ns.getD k node0).name = nm
      · rw [if_pos he]
        simp only [reduceCtorEq, false_iff]
        intro h; exact h k (Nat.lt_succ_self _) he
      · rw [if_neg he]
        refine ⟨fun _ j hj => ?_, fun _ => rfl⟩
        by_cases hjk : j = k
        · rw [hjk]; exact he
        · exact h0 j (by omega)
theorem findN_some {ns : List NodeL} {nm : List UInt8} : ∀ {k i : Nat}, findN ns nm k = some i → i < k ∧ (ns.getD i node0).name = nm ∧ ∀ j, j < i → (ns.getD j node0).name ≠ nm := by
  intro k
  induction k with
  | zero => intro i h; cases h
  | succ k ih =>
    intro i h
    rw [findN] at h
    cases hf : findN ns nm k with
    | some i' =>
      rw [hf] at h
      obtain ⟨h1, h2, h3⟩ := ih hf
      simp only [Option.some.injEq] at h
      subst h
      exact ⟨by omega, h2, h3⟩
    | none =>
      rw [hf] at h
      simp only at h
      split at h
      · rename_i he
        simp only [Option.some.injEq] at h
        subst h
        exact ⟨Nat.lt_succ_self _, he, findN_none.1 hf⟩
      · cases h
theorem findN_mono {ns : List NodeL} {nm : List UInt8} {k i : Nat} (h : findN ns nm k = some i) : ∀ n, k ≤ n → findN ns nm n = some i := by
  intro n
  induction n with
  | zero => intro hk; have : k = 0 := by omega
            subst this; exact h
  | succ n ih =>
    intro hk
    by_cases hkn : k = n + 1
    · rw [← hkn]; exact h
    · rw [findN, ih (by omega)]

set_option maxRecDepth 100000 in
set_option maxHeartbeats 2000000 in
theorem find1_any (n : NodeL) (cs : List Value) (nm : List UInt8) (nb : Nat) (w : World) (h : IsNode w n cs) (hb : Blk w nb #[.string (strB nm)] 9) :
    Calls Tryd.prog 37 #[.agg cs.toArray, .pointer (some ⟨nb, 0, none⟩)] w fun e w' => e = .returned (.bool (decide (n.name = nm))) ∧ Ext No w w' := by
  obtain ⟨⟨pv, hcs, -⟩, -, -, -⟩ := h
  have c0 : cs[0]? = some (.string (strB n.name)) := by rw [hcs]; rfl
  have hcb := (hb.alloc (.cells cs.toArray 42)).cell 0
  simp only [List.getElem?_toArray, List.getElem?_cons_zero] at hcb
  have heq := strB_eq n.name nm
  have HX := Lib.hid (show Ext No w (w.alloc (.cells cs.toArray 42)) from (Ext.refl No w).alloc _)
  have hcx : (w.alloc (.cells cs.toArray 42)).cell? ⟨w.heap.size, 0, none⟩ = some (.string (strB n.name)) := by rw [(Blk.new w cs.toArray 42).cell]; simpa using c0
  generalize decide (n.name = nm) = t at *
  clear hcs hb
  go_enter Tryd.func37, Tryd.ntmps37
  go_wp2_with fail
  go_ret
  exact ⟨rfl, HX.out⟩

def findI (r : Option Nat) : Int := match r with | some i => (i : Int) | none => -1
set_option maxRecDepth 100000 in
set_option maxHeartbeats 4000000 in
theorem indexFunc_any (ns : List NodeL) (a : Option Addr) (n c nb : Nat) (nm : List UInt8) (w : World) (hv : IsNodes w ns (.slice a n c)) (hb : Blk w nb #[.string (strB nm)] 9) :
    Calls Tryd.prog 36 #[.slice a n c, .func (.func 37) #[] #[.pointer (some ⟨nb, 0, none⟩)]] w fun e w' => e = .returned (.int .i64 (findI (findN ns nm n))) ∧ Ext No w w' := by
  obtain ⟨a', c', hh, hc1, hc2, hat⟩ := id hv
  simp only [Value.slice.injEq] at hh
  obtain ⟨rfl, hn, rfl⟩ := hh
  rw [← hn] at hc1
  have HAT := Lib.hid hat; have HN := Lib.hid hn; have HB := Lib.hid hb
  have hcf : ∀ (cs : Array Value) W, (callFunc 37 #[.agg cs, .pointer (some ⟨nb, 0, none⟩)]).run Tryd.prog W = .ok (.enter 37 #[.agg cs, .pointer (some ⟨nb, 0, none⟩)]) W := fun _ _ => by kernel_rfl
  clear hv hat hn hb
  go_enter Tryd.func36, Tryd.ntmps36
  go_wp2_with fail
  go_loopw [8] (fun i wr => ∃ k : Nat, i = .int .i64 k ∧ k ≤ n ∧ Ext No w wr ∧ findN ns nm k = none) (fun i _ => n - (intOf i).toNat)
  case atStart => exact ⟨0, rfl, Nat.zero_le _, Ext.refl _ _, rfl⟩
  case round =>
    obtain ⟨k, rfl, hk, hx, hf⟩ := hrel
    have HX := Lib.hid hx; have HF := Lib.hid hf
    clear hx hf
    by_cases hlt : k < n
    · have hltI : (k : Int) < n := by omega
      obtain ⟨b, off, cs, rfl, hra, hnd⟩ := HAT.out.at_ k (by rw [← HN.out]; exact hlt)
      have hfs : findN ns nm (k + 1) = if (ns.getD k node0).name = nm then some k else none := by rw [findN, HF.out]
      generalize ns.getD k node0 = nd at *
      have HL42 := Lib.hid (run_loadAt_mid (P := Tryd.prog) wr b (off + k * 36) 42 cs _ (rangeAt.ext0 hra HX.out) Tryd.underlying42 rfl (by rw [hnd.length]; exact info42))
      have HFI := Lib.hid (find1_any nd cs nm nb wr (hnd.ext0 HX.out) (HB.out.ext HX.out (fun s => s)))
      have HFS := Lib.hid hfs
      clear hra hnd hfs
      go_wp2_with ((with_reducible refine wpList_load_at ?_ 42 _ rfl ?_ HL42.out ?_); rfl; rfl)
      refine HFI.out.mono ?_
      rintro e w2 ⟨rfl, hx2⟩
      have HX2 := Lib.hid (HX.out.trans' hx2)
      clear hx2 HFI HL42
      dsimp only
      by_cases he : nd.name = nm
      · rw [decide_eq_true he]
        have hfn : findN ns nm n = some k := findN_mono (show findN ns nm (k + 1) = some k by rw [HFS.out, if_pos he]) n (by omega)
        have HFN := Lib.hid hfn
        clear hfn he
        go_wp2_with fail
        go_ret
        refine ⟨?_, HX2.out⟩
        rw [HFN.out]; rfl
      · rw [decide_eq_false he]
        have HNE := Lib.hid he
        clear he
        go_wp2_with fail
        go_roundw
        case rel => exact ⟨k + 1, by go_num, by omega, HX2.out, by rw [HFS.out, if_neg HNE.out]⟩
        case measure => simp [intOf]; omega
    · have hkn : n = k := by omega
      subst hkn
      go_wp2_with fail
      go_ret
      refine ⟨?_, HX.out⟩
      rw [HF.out]; rfl

theorem node0_one : (nodeV node0 (.slice none 0 0)).toArray.all (·.oneCell') = true := nodeV_one _ _ _ _
theorem node0_is (w : World) : IsNode w node0 (nodeV node0 (.slice none 0 0)) :=
  ⟨⟨_, rfl, ⟨none, 0, rfl, Nat.le_refl _, by decide, ⟨fun p hp => (by cases hp), fun i hi => (by cases hi)⟩⟩⟩, rfl, by decide, by decide⟩
/-- what Find tells -/
def FindTold (ns : List NodeL) (nm : List UInt8) (w : World) (e : Ending) (w' : World) : Prop :=
  Ext No w w' ∧ ∃ cs, ((∃ i, findN ns nm ns.length = some i ∧ e = .returned (.tuple #[.agg cs.toArray, .bool true]) ∧ IsNode w (ns.getD i node0) cs) ∨ (findN ns nm ns.length = none ∧ e = .returned (.tuple #[.agg cs.toArray, .bool false]) ∧ IsNode w node0 cs))

set_option maxRecDepth 100000 in
set_option maxHeartbeats 4000000 in
theorem tfind_any (ns : List NodeL) (v : Value) (nm : List UInt8) (w : World) (hv : IsNodes w ns v) :
    Calls Tryd.prog 16 #[v, .string (strB nm)] w (FindTold ns nm w) := by
  obtain ⟨a, c, rfl, hc1, hc2, hat⟩ := id hv
  obtain ⟨n, hn⟩ : ∃ n, n = ns.length := ⟨_, rfl⟩
  have HFT := Lib.hid (show ∀ e w', FindTold ns nm w e w' = (Ext No w w' ∧ ∃ cs, ((∃ i, findN ns nm n = some i ∧ e = .returned (.tuple #[.agg cs.toArray, .bool true]) ∧ IsNode w (ns.getD i node0) cs) ∨ (findN ns nm n = none ∧ e = .returned (.tuple #[.agg cs.toArray, .bool false]) ∧ IsNode w node0 cs))) by rw [hn]; exact fun _ _ => rfl)
  rw [← hn] at hv hc1 ⊢
  have hx1 : Ext No w (w.alloc (.cells #[.string (strB nm)] 9)) := (Ext.refl No w).alloc _
  have hB1 : Blk (w.alloc (.cells #[.string (strB nm)] 9)) w.heap.size #[.string (strB nm)] 9 := Blk.new w _ _
  have hx2 : Ext No (w.alloc (.cells #[.string (strB nm)] 9)) ((w.alloc (.cells #[.string (strB nm)] 9)).alloc (.cells (nodeV node0 (.slice none 0 0)).toArray 42)) := (Ext.refl No _).alloc _
  have hB2 : Blk ((w.alloc (.cells #[.string (strB nm)] 9)).alloc (.cells (nodeV node0 (.slice none 0 0)).toArray 42)) (w.heap.size + 1) (nodeV node0 (.slice none 0 0)).toArray 42 := by
    have h := Blk.new (w.alloc (.cells #[.string (strB nm)] 9)) (nodeV node0 (.slice none 0 0)).toArray 42
    rw [World.size_alloc] at h
    exact h
  obtain ⟨w2, hw2⟩ : ∃ w2, (w.alloc (.cells #[.string (strB nm)] 9)).alloc (.cells (nodeV node0 (.slice none 0 0)).toArray 42) = w2 := ⟨_, rfl⟩
  rw [hw2] at hx2 hB2
  have hxx := hx1.trans' hx2
  have HIF := Lib.hid (indexFunc_any ns a n c w.heap.size nm w2 (hv.ext0 hxx) (hB1.ext hx2 (fun s => s)))
  have HX2 := Lib.hid hxx; have HB2 := Lib.hid hB2; have HW2 := Lib.hid hw2; have HAT := Lib.hid hat; have HN := Lib.hid hn
  have hmf : ∀ W, (Instr.makeFunc (.func 37) #[] #[.pointer (some ⟨w.heap.size, 0, none⟩)]).run Tryd.prog W = .ok (.func (.func 37) #[] #[.pointer (some ⟨w.heap.size, 0, none⟩)]) W := fun W => by kernel_rfl
  clear hv hx1 hB1 hx2 hB2 hw2 hxx hat hn
  go_enter Tryd.func16, Tryd.ntmps16
  go_wp2_with fail
  show Calls _ _ _ ((w.alloc (.cells #[.string (strB nm)] 9)).alloc (.cells (nodeV node0 (.slice none 0 0)).toArray 42)) _
  rw [HW2.out]
  refine HIF.out.mono ?_
  rintro e w3 ⟨rfl, hx3⟩
  have HX3 := Lib.hid (HX2.out.trans' hx3); have HB3 := Lib.hid (HB2.out.ext hx3 (fun s => s))
  clear hx3 HIF
  dsimp only
  cases hf : findN ns nm n with
  | none =>
    have HF := Lib.hid hf
    have HIS := Lib.hid (node0_is w)
    have hsz : (nodeV node0 (.slice none 0 0)).toArray.size = 36 := by rw [List.size_toArray]; exact HIS.out.length
    have HSO := Lib.hid (store_row (ty := 42) (cs := (nodeV node0 (.slice none 0 0)).toArray) HB3.out (by rw [hsz]; exact info42) (by rw [hsz]; try rfl) HIS.out.one)
    have HBO := Lib.hid (setRow_blk (cs := (nodeV node0 (.slice none 0 0)).toArray) HB3.out)
    have HXF := Lib.hid (HX3.out.trans (setRow_ext w3 (w.heap.size + 1) (nodeV node0 (.slice none 0 0)).toArray) (fun _ _ s => s) (fun j hj s => by omega))
    have hlv := run_loadVar_row (P := Tryd.prog) _ _ 42 42 _ (0, 0) _ HBO.out Tryd.underlying42 rfl (by rw [hsz]; exact info42)
    have HLV := Lib.hid hlv
    clear hsz hlv
    rw [show findI none = -1 from rfl]
    clear hf
    go_wp2_with ((with_reducible refine wpList_store_at ?_ 42 _ _ rfl ?_ ?_ HSO.out ?_); rfl; rfl; rfl)
    refine bodyPost_ret (v := .tuple #[.agg (nodeV node0 (.slice none 0 0)).toArray, .bool false]) (by simp [results, Tryd.results16, asAddr, HLV.out]) rfl ?_
    exact ⟨HXF.out, _, .inr ⟨by rw [← HN.out]; exact HF.out, rfl, HIS.out⟩⟩
  | some i =>
    have hin := (findN_some hf).1
    have HF := Lib.hid hf
    obtain ⟨b, off, cs, rfl, hra, hnd⟩ := HAT.out.at_ i (by rw [← HN.out]; exact hin)
    have HIS := Lib.hid hnd
    have HL42 := Lib.hid (run_loadAt_mid (P := Tryd.prog) w3 b (off + i * 36) 42 cs _ (rangeAt.ext0 hra HX3.out) Tryd.underlying42 rfl (by rw [hnd.length]; exact info42))
    have hsz : cs.toArray.size = 36 := by rw [List.size_toArray]; exact HIS.out.length
    have HSO := Lib.hid (store_row (ty := 42) (cs := cs.toArray) HB3.out (by rw [hsz]; exact info42) (by rw [hsz]; try rfl) HIS.out.one)
    have HBO := Lib.hid (setRow_blk (cs := cs.toArray) HB3.out)
    have HXF := Lib.hid (HX3.out.trans (setRow_ext w3 (w.heap.size + 1) cs.toArray) (fun _ _ s => s) (fun j hj s => by omega))
    have hlv := run_loadVar_row (P := Tryd.prog) _ _ 42 42 _ (0, 0) _ HBO.out Tryd.underlying42 rfl (by rw [hsz]; exact info42)
    have HLV := Lib.hid hlv
    clear hsz hlv
    rw [show findI (some i) = (i : Int) from rfl]
    have hini : (i : Int) < n := by omega
    clear hf hra hnd
    go_wp2_with (first | ((with_reducible refine wpList_load_at ?_ 42 _ rfl ?_ HL42.out ?_); rfl; rfl) | ((with_reducible refine wpList_store_at ?_ 42 _ _ rfl ?_ ?_ HSO.out ?_); rfl; rfl; rfl))
    refine bodyPost_ret (v := .tuple #[.agg cs.toArray, .bool true]) (by simp [results, Tryd.results16, asAddr, HLV.out]) rfl ?_
    exact ⟨HXF.out, cs, .inl ⟨i, by rw [← HN.out]; exact HF.out, rfl, HIS.out⟩⟩
end Go.Proofs.YtefabpgfhghpgaaDoor
end
