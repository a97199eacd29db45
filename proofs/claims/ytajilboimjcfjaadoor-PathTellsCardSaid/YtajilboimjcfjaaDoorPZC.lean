/-
  JOINED (3): the contracts of strings.Join, path.Clean, path.Less.
-/
import Derived.Test.YtajilboimjcfjaaDoorPZB
import Derived.Shelf.Strings.Builder1
import Derived.Shelf.Strings.Builder2
import Derived.Shelf.Strings.OnBuilder
import Derived.Test.YtajilboimjcfjaaDoorProg
set_option linter.unusedVariables false
set_option linter.unusedSimpArgs false

section
/-
  DERIVED: THE SHELF's CONTRACTS AT THIS DUMP, IN PLAIN WORDS (tools/lay-plain.mjs out of 'TrydShelf.lean', which tools/lay-shelf.mjs wrote): THE SAME DECLARATIONS UNDER THE SAME NAMES: 'import', 'namespace', 'open', 'def', 'theorem' AND NOTHING ELSE: no command of the shelf's: FOR A HAND-IN. Each laying: the table of numbers ('.._ren') and one theorem, a field a fact of the dump's own or the kernel's comparison; each contract: ONE APPLICATION.
-/
namespace Go.Proofs
open Go.Shelf
def Tryd.lays156_ren : Go.Shelf.Ren := ⟨fun | 156 => 30 | 165 => 40 | 166 => 41 | 169 => 42 | 240 => 49 | 241 => 50 | 276 => 57 | 277 => 58 | n => n, fun | 31 => 30 | 9 => 9 | 3 => 3 | 4 => 4 | 0 => 0 | 20 => 20 | 72 => 57 | 76 => 61 | 70 => 54 | 37 => 55 | 75 => 60 | 127 => 67 | 164 => 73 | 5 => 5 | 80 => 63 | n => n, fun | n => n⟩
theorem Tryd.lays156 : Go.Proofs.Lays.n156 Tryd.prog Tryd.lays156_ren := {
  mixed := by kernel_rfl
  f156 := Tryd.func30.trans (congrArg some (by kernel_rfl))
  f165 := Tryd.func40.trans (congrArg some (by kernel_rfl))
  f166 := Tryd.func41.trans (congrArg some (by kernel_rfl))
  f169 := Tryd.func42.trans (congrArg some (by kernel_rfl))
  f240 := Tryd.func49.trans (congrArg some (by kernel_rfl))
  f241 := Tryd.func50.trans (congrArg some (by kernel_rfl))
  f276 := Tryd.func57.trans (congrArg some (by kernel_rfl))
  f277 := Tryd.func58.trans (congrArg some (by kernel_rfl))
  t0 := Tryd.underlying0
  a0 := Tryd.isAgg0
  z0 := Tryd.sizeOf0
  v0 := Tryd.zeroValue0
  t3 := Tryd.underlying3
  a3 := Tryd.isAgg3
  z3 := Tryd.sizeOf3
  v3 := Tryd.zeroValue3
  t4 := Tryd.underlying4
  a4 := Tryd.isAgg4
  z4 := Tryd.sizeOf4
  v4 := Tryd.zeroValue4
  t9 := Tryd.underlying9
  a9 := Tryd.isAgg9
  z9 := Tryd.sizeOf9
  v9 := Tryd.zeroValue9
  t20 := Tryd.underlying20
  a20 := Tryd.isAgg20
  z20 := Tryd.sizeOf20
  v20 := Tryd.zeroValue20
  t31 := Tryd.underlying30
  a31 := Tryd.isAgg30
  z31 := Tryd.sizeOf30
  v31 := Tryd.zeroValue30
  t37 := Tryd.underlying55
  a37 := Tryd.isAgg55
  z37 := Tryd.sizeOf55
  v37 := Tryd.zeroValue55
  t70 := Tryd.underlying54
  a70 := Tryd.isAgg54
  z70 := Tryd.sizeOf54
  v70 := Tryd.zeroValue54
  t72 := Tryd.underlying57
  a72 := Tryd.isAgg57
  z72 := Tryd.sizeOf57
  v72 := Tryd.zeroValue57
  t75 := Tryd.underlying60
  a75 := Tryd.isAgg60
  z75 := Tryd.sizeOf60
  v75 := Tryd.zeroValue60
  t76 := Tryd.underlying61
  a76 := Tryd.isAgg61
  z76 := Tryd.sizeOf61
  v76 := Tryd.zeroValue61
  t127 := Tryd.underlying67
  a127 := Tryd.isAgg67
  z127 := Tryd.sizeOf67
  v127 := Tryd.zeroValue67
  t164 := Tryd.underlying73
  a164 := Tryd.isAgg73
  z164 := Tryd.sizeOf73
  v164 := Tryd.zeroValue73 }
theorem Tryd.Builder_Extra_156 : Builder.Extra Tryd.prog Tryd.lays156_ren := {
  sizeBuilder := by kernel_rfl
  liesBuilder := by kernel_rfl
  t5 := Tryd.underlying5
  a5 := Tryd.isAgg5
  z5 := Tryd.sizeOf5
  v5 := Tryd.zeroValue5
  infoByte := by kernel_rfl
  cellsByte := by kernel_rfl
  sizeByte := by kernel_rfl
  neB5 := by decide }
open Go.RowKit in
/-- No element: the empty string; the world is as it was. (Whatever the slice's address and capacity: a nil slice too.) (LAID: no walk: one application.) -/
theorem Tryd.strings_Join_none (a : Option Addr) (c : Nat) (sep : ByteArray) (w : World) :
    Calls Tryd.prog 30 #[.slice a 0 c, .string sep] w fun e w' => e = .returned (.string ⟨#[]⟩) ∧ w' = w := Any.strings_Join_none Tryd.lays156 Tryd.Builder_Extra_156 a c sep w
open Go.RowKit in
/-- strings.Join: "Join concatenates the elements of its first argument to create a single string. The separator string sep is placed between elements in the resulting string.": HOWEVER MANY ELEMENTS. Below the heap's end the world is as it was. (LAID: no walk: one application.) -/
theorem Tryd.strings_Join (bk o c : Nat) (xs : List ByteArray) (sep : ByteArray) (w : World) (hcells : ∀ (j : Nat) x, xs[j]? = some x → w.cell? ⟨bk, o + j, none⟩ = some (.string x)) (hbk : bk < w.heap.size) (hN : xs.length ≤ 140737488355328) (hcap : xs.length ≤ c) (hlen : (Lib.join (xs.map (·.data.toList)) sep.data.toList).length ≤ 140737488355328) :
    Calls Tryd.prog 30 #[.slice (some ⟨bk, o, none⟩) xs.length c, .string sep] w fun e w' => e = .returned (.string ⟨(Lib.join (xs.map (·.data.toList)) sep.data.toList).toArray⟩) ∧ Below w.heap.size w w' := Any.strings_Join Tryd.lays156 Tryd.Builder_Extra_156 bk o c xs sep w hcells hbk hN hcap hlen
end Go.Proofs
end

section
/- The contracts of path.step, of strings.Join at a separator. -/
namespace Go.Proofs.YtajilboimjcfjaaDoor
open Go.RowKit Go.My Go.Shelf

/-- parts, with separators between -/
def glueL : List (List UInt8) → List UInt8
  | [] => []
  | [p] => p
  | p :: ps => p ++ 47 :: glueL ps
theorem glue_join (ls : List (List UInt8)) : Lib.join ls [47] = glueL ls := by
  induction ls with
  | nil => rfl
  | cons p ps ih =>
    cases ps with
    | nil => simp [Lib.join, List.intercalate, List.intersperse, glueL]
    | cons q qs =>
      have h : glueL (p :: q :: qs) = p ++ 47 :: glueL (q :: qs) := rfl
      rw [h, ← ih]
      simp [Lib.join, List.intercalate, List.intersperse]
theorem glueL_cons (p q : List UInt8) (qs : List (List UInt8)) : glueL (p :: q :: qs) = p ++ 47 :: glueL (q :: qs) := rfl

theorem strs_get {w : World} {ns : List (List UInt8)} {a : Option Addr} {n c : Nat} (h : IsStrs w ns (.slice a n c)) (i : Nat) (hi : i < n) : ∃ b off, a = some ⟨b, off, none⟩ ∧ w.cell? ⟨b, off + i, none⟩ = some (.string (strB (ns.getD i []))) := by
  obtain ⟨b, off, ha, hc⟩ := IsRow.get h i hi
  exact ⟨b, off, ha, hc⟩
/-- strings.Join at a separator -/
theorem sjoin_any (ns : List (List UInt8)) (v : Value) (w : World) (h : IsStrs w ns v) (hN : ns.length ≤ 140737488355328) (hlen : (glueL ns).length ≤ 140737488355328) :
    Calls Tryd.prog 30 #[v, .string ⟨#[47]⟩] w fun e w' => e = .returned (.string (strB (glueL ns))) ∧ Ext No w w' := by
  obtain ⟨a, c, rfl, hc1, hc2, -⟩ := id h
  cases hns : ns with
  | nil =>
    subst hns
    refine (Go.Proofs.Tryd.strings_Join_none a c ⟨#[47]⟩ w).mono ?_
    rintro e w' ⟨rfl, rfl⟩
    exact ⟨rfl, Ext.refl _ _⟩
  | cons p ps =>
    rw [← hns]
    obtain ⟨b, off, rfl, hc0⟩ := strs_get h 0 (by rw [hns]; simp)
    have hm : (ns.map strB).length = ns.length := by simp
    have hj : ((ns.map strB).map (·.data.toList)) = ns := by rw [List.map_map]; exact List.map_id' ns
    have := Go.Proofs.Tryd.strings_Join b off c (ns.map strB) ⟨#[47]⟩ w (fun j x hx => by
      rw [List.getElem?_map] at hx
      have hj : j < ns.length := by
        rcases Nat.lt_or_ge j ns.length with h | h
        · exact h
        · rw [List.getElem?_eq_none h] at hx; cases hx
      obtain ⟨b', off', he, hcj⟩ := strs_get h j hj
      simp only [Option.some.injEq, Addr.mk.injEq, and_true] at he
      obtain ⟨rfl, rfl⟩ := he
      rw [hcj]
      rw [List.getElem?_eq_getElem hj] at hx
      simp only [Option.map_some, Option.some.injEq] at hx
      rw [← hx, List.getD_eq_getElem?_getD, List.getElem?_eq_getElem hj]; rfl)
      (World.block_lt_of_cell? _ _ hc0) (by rw [hm]; exact hN) (by rw [hm]; exact hc1) (by rw [hj]; show (Lib.join ns [47]).length ≤ _; rw [glue_join]; exact hlen)
    rw [hm, hj] at this
    refine this.mono ?_
    rintro e w' ⟨rfl, hb⟩
    refine ⟨?_, Ext.of_below hb⟩
    show Ending.returned (.string ⟨(Lib.join ns [47]).toArray⟩) = _
    rw [glue_join]; rfl

end Go.Proofs.YtajilboimjcfjaaDoor
end

section
/- The contract of path.step. -/
namespace Go.Proofs.YtajilboimjcfjaaDoor
open Go.RowKit Go.My

theorem own_shorter {w : World} {base n c k : Nat} {e : TypeId} {a : Option Addr} {xs : List Value} (h : w.ownsRow base e 1 (.slice a n c) n xs) (hk : k ≤ n) : w.ownsRow base e 1 (.slice a k c) k (xs.take k) := by
  refine ⟨by rw [List.length_take, h.1]; omega, ?_⟩
  rcases h.2 with ⟨he, h0⟩ | ⟨g, cap, cur, he, hb, hg, h1, h2, h3, h4⟩
  · simp only [Value.slice.injEq] at he
    obtain ⟨rfl, -, rfl⟩ := he
    have : k = 0 := by omega
    subst this
    exact .inl ⟨rfl, rfl⟩
  · simp only [Value.slice.injEq] at he
    obtain ⟨rfl, -, rfl⟩ := he
    refine .inr ⟨g, c, cur, rfl, hb, hg, by omega, h2, h3, ?_⟩
    rw [← h4, List.take_take]
    congr 1
    omega
/-- parts behind one more -/
def stepL (o : List (List UInt8)) (s : List UInt8) : Option (List (List UInt8)) :=
  if s = [] ∨ s = [46] then some o else if s = [46, 46] ∧ o ≠ [] then some (o.take (o.length - 1)) else if partB s = true then some (o ++ [s]) else none
/-- what step tells -/
def StepTold (o : List (List UInt8)) (s : List UInt8) (v : Value) (base : Nat) (w : World) (e : Ending) (w' : World) : Prop :=
  Ext (fun j => v.ownBlock = some j) w w' ∧ ((∃ o' v', stepL o s = some o' ∧ e = .returned v' ∧ w'.ownsRow base 9 1 v' o'.length (strVs o')) ∨ (stepL o s = none ∧ e = .panicked (thrown 38)))

set_option maxRecDepth 100000 in
set_option maxHeartbeats 2000000 in
theorem step_any (o : List (List UInt8)) (s : List UInt8) (v : Value) (base : Nat) (w : World) (h : w.ownsRow base 9 1 v o.length (strVs o)) (hb : base ≤ w.heap.size) (hs : s.length ≤ 1099511627776) (ho : o.length ≤ 1099511627776) :
    Calls Tryd.prog 28 #[v, .string (strB s)] w (StepTold o s v base w) := by
  obtain ⟨a, c, rfl⟩ := own_form h
  obtain ⟨n, hn⟩ : ∃ n, n = o.length := ⟨_, rfl⟩
  rw [← hn] at h ⊢
  have hl := strB_list s
  have hx : Ext (fun j => (Value.slice a n c).ownBlock = some j) w w := Ext.refl _ w
  by_cases h0 : s = []
  · subst h0
    have hie : (strB []).toList.isEmpty = true := by rw [hl]; rfl
    have H := Lib.hid h; have HN := Lib.hid hn
    clear h hn hl
    go_enter Tryd.func28, Tryd.ntmps28
    go_wp2_with fail
    go_ret
    exact ⟨Ext.refl _ _, .inl ⟨o, _, rfl, rfl, HN.out ▸ H.out⟩⟩
  have hie : (strB s).toList.isEmpty = false := by rw [hl]; cases s with
    | nil => exact absurd rfl h0
    | cons c t => rfl
  by_cases h1 : s = [46]
  · subst h1
    have bt : ((strB [46]).toList == [46]) = true := by rw [hl]; rfl
    have H := Lib.hid h; have HN := Lib.hid hn
    clear h hn hl
    go_enter Tryd.func28, Tryd.ntmps28
    go_wp2_with fail
    go_ret
    exact ⟨Ext.refl _ _, .inl ⟨o, _, rfl, rfl, HN.out ▸ H.out⟩⟩
  have b1 : ((strB s).toList == [46]) = false := by rw [hl]; exact list_beq h1
  by_cases h2 : s = [46, 46] ∧ 0 < n
  · obtain ⟨h2, h3⟩ := h2
    subst h2
    have h3i : (0 : Int) < n := by omega
    have hnc : n ≤ c := by
      have := IsRow.of_own h
      exact (IsRow.len this).2.1
    have H := Lib.hid h; have HN := Lib.hid hn
    have hst : stepL o [46, 46] = some (o.take (o.length - 1)) := by
      unfold stepL
      rw [if_neg (by decide), if_pos ⟨rfl, by intro h; rw [h] at hn; simp at hn; omega⟩]
    have HST := Lib.hid hst
    have bt : ((strB [46, 46]).toList == [46, 46]) = true := by rw [hl]; rfl
    obtain ⟨m, rfl⟩ : ∃ m, n = m + 1 := ⟨n - 1, by omega⟩
    have hmc : (m : Int) ≤ c := by omega
    have hmc2 : m ≤ c := by omega
    have hm63 : (m : Int) ≤ 1099511627776 := by omega
    have hrun := fun wx => run_takeS (P := Tryd.prog) Tryd.underlying30 (show ∀ w, (sizeOf 9).run Tryd.prog w = .ok 1 w from fun w => by kernel_rfl) a .i64 m (m + 1) c hmc2 wx
    clear h hn hl hst hx
    go_enter Tryd.func28, Tryd.ntmps28
    go_wp2_with fail
    go_ret
    refine ⟨Ext.refl _ _, .inl ⟨_, _, HST.out, rfl, ?_⟩⟩
    have h := own_shorter H.out (show m ≤ m + 1 by omega)
    have hl : (o.take (o.length - 1)).length = m := by rw [List.length_take, ← HN.out]; omega
    have hv : strVs (o.take (o.length - 1)) = (strVs o).take m := by unfold strVs; rw [List.map_take, ← HN.out]; rfl
    rw [hl, hv]
    exact h
  have hnp : ¬ (s = [46, 46] ∧ o ≠ []) := by
    rintro ⟨h3, h4⟩
    exact h2 ⟨h3, by rw [hn]; exact List.length_pos_iff.2 h4⟩
  have hstep : stepL o s = if partB s = true then some (o ++ [s]) else none := by
    unfold stepL; rw [if_neg (by rintro (h | h); exact h0 h; exact h1 h), if_neg hnp]
  have hcase : (((strB s).toList == [46, 46]) = true ∧ n = 0) ∨ ((strB s).toList == [46, 46]) = false := by
    rw [hl]
    by_cases h3 : s = [46, 46]
    · subst h3
      exact .inl ⟨rfl, by rcases Nat.eq_zero_or_pos n with h | h; exact h; exact absurd ⟨rfl, h⟩ h2⟩
    · exact .inr (list_beq h3)
  have hmx : Ext No w (w.alloc (.cells #[.string (strB s)] 9)) := (Ext.refl No w).alloc _
  have HH := Lib.hid h; have HN := Lib.hid hn; have HST := Lib.hid hstep
  have HPT := Lib.hid (fun W => part_any s W (by omega))
  generalize partB s = t at *
  clear h hn hl hx h0 h1 h2 hnp hstep hmx
  have hcase2 : (((strB s).toList == [46, 46]) = true ∧ ¬ 0 < n) ∨ ((strB s).toList == [46, 46]) = false := by
    rcases hcase with ⟨h1, h2⟩ | h1
    · exact .inl ⟨h1, by omega⟩
    · exact .inr h1
  clear hcase
  rcases hcase2 with ⟨b2, hn0⟩ | b2
  all_goals
    go_enter Tryd.func28, Tryd.ntmps28
    go_wp2_with fail
    refine (HPT.out w).mono ?_
    rintro e w2 ⟨rfl, hd⟩
    have HD := Lib.hid hd
    have hown := own_ext HH.out (hd.ext No) (fun _ _ s => s)
    have HOW := Lib.hid (hown.alloc (.cells #[.string (strB s)] 9))
    have HZ := Lib.hid (show base ≤ (w2.alloc (.cells #[.string (strB s)] 9)).heap.size by have := (hd.ext No).size; rw [World.size_alloc]; omega)
    have HNM := Lib.hid (show n + 1 ≤ 9223372036854775807 ∧ (n + 1) * 16 ≤ 140737488355328 by have := HN.out; omega)
    clear hd hown
    dsimp only
    cases t
    · go_wp2_with fail
      refine (must_no 38 (by decide) w2).mono ?_
      rintro e w3 ⟨rfl, rfl⟩
      dsimp only
      exact ⟨rfl, HD.out.ext _, .inr ⟨by rw [HST.out]; rfl, rfl⟩⟩
    · go_wp2_with (at_builtin; refine wpList_app1 _ _ rfl _ _ 30 rfl base 9 _ _ str_info Tryd.underlying30 rfl _ _ _ rfl HOW.out _ rfl (cell_new _ _ _ rfl) rfl HNM.out.1 HNM.out.2 HZ.out ?_; intro v' w3 hown3 hg3; obtain ⟨a7, c7, rfl⟩ := own_form hown3)
      go_ret
      refine ⟨((HD.out.ext _).alloc _).grown hg3 (fun k hk _ => hk), .inl ⟨_, _, by rw [HST.out]; rfl, rfl, ?_⟩⟩
      rw [List.length_append, List.length_singleton, ← HN.out]
      have : strVs (o ++ [s]) = strVs o ++ [.string (strB s)] := by unfold strVs; simp
      rw [this]
      exact hown3

end Go.Proofs.YtajilboimjcfjaaDoor
end

section
/- The contract of path.Clean's closure. -/
namespace Go.Proofs.YtajilboimjcfjaaDoor
open Go.RowKit Go.My

def foldS : List (List UInt8) → List (List UInt8) → Option (List (List UInt8))
  | o, [] => some o
  | o, s :: ss => (stepL o s).bind fun o' => foldS o' ss
theorem foldS_cons (o : List (List UInt8)) (s : List UInt8) (ss : List (List UInt8)) : foldS o (s :: ss) = (stepL o s).bind fun o' => foldS o' ss := rfl
/-- the path that a text means -/
def cleanL (l : List UInt8) : Option (List UInt8) := (foldS [] (partsL l)).bind fun o => if checkE (glueL o) = 0 then some (glueL o) else none
theorem stepL_ok {o o' : List (List UInt8)} {s : List UInt8} (h : stepL o s = some o') (ho : ∀ p ∈ o, p.length ≤ 40) : (∀ p ∈ o', p.length ≤ 40) ∧ o'.length ≤ o.length + 1 := by
  unfold stepL at h
  split at h
  · cases h; exact ⟨ho, by omega⟩
  · split at h
    · cases h; exact ⟨fun p hp => ho p (List.mem_of_mem_take hp), by rw [List.length_take]; omega⟩
    · split at h
      · rename_i hp
        cases h
        refine ⟨fun p hm => ?_, by simp⟩
        rcases List.mem_append.1 hm with hm | hm
        · exact ho p hm
        · rw [List.mem_singleton.1 hm]
          unfold partB at hp
          simp at hp
          exact hp.1.2
      · cases h
theorem glue_len (o : List (List UInt8)) (ho : ∀ p ∈ o, p.length ≤ 40) : (glueL o).length ≤ o.length * 41 := by
  induction o with
  | nil => simp [glueL]
  | cons p ps ih =>
    have hp := ho p (List.mem_cons_self ..)
    cases ps with
    | nil => simp [glueL]; omega
    | cons q qs =>
      have h := ih (fun x hx => ho x (List.mem_cons_of_mem _ hx))
      rw [glueL_cons, List.length_append, List.length_cons, List.length_cons]
      omega
theorem checkE_or (l : List UInt8) : checkE l = 0 ∨ checkE l = 38 := by
  unfold checkE; split
  · exact .inr rfl
  · split
    · exact .inl rfl
    · exact .inr rfl
/-- what the closure leaves -/
def CleanQ (l : List UInt8) (ob B : Nat) (n : Int) (w1 : World) : Prop :=
  (n = 0 ∧ ∃ o v, cleanL l = some (glueL o) ∧ (glueL o).length ≤ 140737488355328 ∧ o.length ≤ 140737488355328 ∧ Blk w1 ob #[v] 30 ∧ w1.ownsRow B 9 1 v o.length (strVs o)) ∨ (n = 38 ∧ cleanL l = none)

set_option maxRecDepth 100000 in
set_option maxHeartbeats 8000000 in
theorem clean1_any (l : List UInt8) (pb ob : Nat) (w : World) (hp : Blk w pb #[.string (strB l)] 9) (ho : Blk w ob #[.slice none 0 0] 30) (hl : l.length ≤ 1000000000) :
    Calls Tryd.prog 25 #[.pointer (some ⟨pb, 0, none⟩), .pointer (some ⟨ob, 0, none⟩)] w (Body (fun j => j = ob) w (CleanQ l ob w.heap.size)) := by
  have hcp := hp.cell 0
  simp only [List.getElem?_toArray, List.getElem?_cons_zero] at hcp
  have HO := Lib.hid ho; have HL := Lib.hid hl
  have hob := ho.lt
  clear hp ho hl
  go_enter Tryd.func25, Tryd.ntmps25
  go_wp2_with fail
  refine (parts_any l w).mono ?_
  rintro e w1 ⟨hE1, bp, bs, bv, rfl, hbp, hbs, hbv, hn1, h1, h2, h3⟩
  have HC := Lib.hid (collect_any l bp bs bv w1 hbp hbs hbv (by have := HL.out; omega) hn1)
  have HE1 := Lib.hid hE1; have HB1 := Lib.hid h1
  clear hbp hbs hbv hn1 h1 h2 h3 hE1 hcp
  dsimp only
  go_wp2_with fail
  refine HC.out.mono ?_
  rintro e w2 ⟨v2, rfl, ho2, hE2⟩
  obtain ⟨a2, c2, rfl⟩ := own_form ho2
  have hE02 : Ext No w w2 := HE1.out.trans hE2 (fun _ _ s => s) (fun j hj s => by have := HB1.out; omega)
  obtain ⟨n, hn⟩ : ∃ n, n = (partsL l).length := ⟨_, rfl⟩
  have hcount := partsL_count l
  have hlt2 : ∀ j, (Value.slice a2 (partsL l).length c2).ownBlock = some j → w.heap.size ≤ j := fun j hj => by have := (World.ownsRow.lt ho2 j hj).1; have := HE1.out.size; omega
  have hst := strs_own ho2
  rw [← hn] at hst hlt2 hcount ⊢
  have HN := Lib.hid hn; have HST := Lib.hid hst; have HE2 := Lib.hid hE02; have HLT := Lib.hid hlt2; have HCN := Lib.hid hcount
  have HO2 := Lib.hid (HO.out.ext hE02 (fun s => s))
  clear ho2 hE2 hE02 hn hst hlt2 hcount HC HE1 HB1 HO
  dsimp only
  go_wp2_with fail
  have hn63 : n ≤ 1000000001 := by have := HCN.out; have := HL.out; omega
  go_loopw [8] (fun i wr => ∃ (k : Nat) (o : List (List UInt8)) (v : Value), i = .int .i64 k ∧ k ≤ n ∧ foldS o ((partsL l).drop k) = foldS [] (partsL l) ∧ o.length ≤ k ∧ (∀ p ∈ o, p.length ≤ 40) ∧ Blk wr ob #[v] 30 ∧ wr.ownsRow w2.heap.size 9 1 v o.length (strVs o) ∧ Ext (fun j => j = ob) w2 wr) (fun i _ => n - (intOf i).toNat)
  case atStart => exact ⟨0, [], .slice none 0 0, rfl, Nat.zero_le _, rfl, Nat.le_refl _, (fun p hp => by cases hp), HO2.out, World.ownsRow_nil _ _ _ _, Ext.refl _ _⟩
  case round =>
    obtain ⟨k, o, v, rfl, hk, hf, hok, ho40, hb, hrow, hx⟩ := hrel
    have hob2 : ob < w2.heap.size := by have := HE2.out.size; omega
    have hcb := hb.cell 0; have hfb := hb.free 0
    simp only [List.getElem?_toArray, List.getElem?_cons_zero] at hcb
    have HF := Lib.hid hf; have H40 := Lib.hid ho40; have HB := Lib.hid hb; have HR := Lib.hid hrow; have HX := Lib.hid hx
    clear hf ho40 hb hrow hx
    by_cases hlt : k < n
    · have hltI : (k : Int) < n := by omega
      obtain ⟨b5, o5, rfl, hck⟩ := strs_get HST.out k hlt
      have hls := parts_get l k (by rw [← HN.out]; exact hlt)
      have hdk : (partsL l).drop k = (partsL l).getD k [] :: (partsL l).drop (k + 1) := by
        rw [List.drop_eq_getElem_cons (by rw [← HN.out]; exact hlt), List.getD_eq_getElem?_getD, List.getElem?_eq_getElem (by rw [← HN.out]; exact hlt)]; rfl
      have hck2 := hck
      rw [← HX.out.cell (World.block_lt_of_cell? _ _ hck) (fun s => by have := HLT.out b5 rfl; dsimp only at s; omega)] at hck2
      have hf := HF.out
      rw [hdk, foldS_cons] at hf
      generalize (partsL l).getD k [] = s at *
      have HF2 := Lib.hid hf; have HS := Lib.hid hls
      have hvo := own_form HR.out
      obtain ⟨av, cv, hvf⟩ := hvo
      subst hvf
      clear hck hdk hf hls
      go_wp2_with fail
      refine (step_any o s _ w2.heap.size wr HR.out HX.out.size (by have := HS.out.2; have := HL.out; omega) (by have := HCN.out; have := HL.out; omega)).mono ?_
      rintro e w5 ⟨hE5, ⟨o', v', hst, rfl, hrow⟩ | ⟨hst, rfl⟩⟩
      · have hok := stepL_ok hst H40.out
        have hrl := World.ownsRow.lt HR.out
        have hb5 := HB.out.ext hE5 (fun s => by have := (hrl _ s).1; omega)
        have hx5 : Ext (fun j => j = ob) w2 w5 := HX.out.trans hE5 (fun _ _ s => s) (fun j hj s => by have := (hrl _ s).1; omega)
        have hf := HF2.out
        rw [hst, Option.bind_some] at hf
        obtain ⟨av', cv', rfl⟩ := own_form hrow
        have hc5 := hb5.cell 0; have hf5 := hb5.free 0
        simp only [List.getElem?_toArray, List.getElem?_cons_zero] at hc5
        have HB5 := Lib.hid hb5; have HX5 := Lib.hid hx5; have HF5 := Lib.hid hf; have HOK := Lib.hid hok; have HR5 := Lib.hid hrow
        have hne := own_ne_type HR5.out HB5.out (by decide)
        have HNE := Lib.hid hne
        clear hE5 hst hrow hok hrl hb5 hx5 hf hcb hfb hne
        dsimp only
        go_wp2_with fail
        go_roundw
        case rel =>
          have hs : Ext (fun j => j = ob) w5 (w5.setCell ⟨ob, 0, none⟩ (.slice av' o'.length cv')) := (Ext.refl _ w5).setCell _ _ (fun _ => rfl)
          exact ⟨k + 1, o', _, by go_num, by omega, HF5.out, by have := HOK.out.2; omega, HOK.out.1, HB5.out.set 0 (.slice av' o'.length cv'), own_ext HR5.out hs (fun j hj s => HNE.out (by rw [hj, s])), HX5.out.trans' hs⟩
        case measure => simp [intOf]; omega
      · have hrl := World.ownsRow.lt HR.out
        have hx5 : Ext (fun j => j = ob) w2 w5 := HX.out.trans hE5 (fun _ _ s => s) (fun j hj s => by have := (hrl _ s).1; omega)
        have hf := HF2.out
        rw [hst] at hf
        have hcl : cleanL l = none := by unfold cleanL; rw [← hf]; rfl
        have HCL := Lib.hid hcl; have HX5 := Lib.hid hx5
        clear hE5 hst hrl hx5 hf hcl
        dsimp only
        exact ⟨rfl, 38, .inr ⟨rfl, by decide⟩, (HE2.out.mono (fun _ _ s => s.elim)).trans' HX5.out, .inr ⟨rfl, HCL.out⟩⟩
    · have hkn : n = k := by omega
      subst hkn
      have hf := HF.out
      rw [List.drop_eq_nil_of_le (by rw [← HN.out]; exact Nat.le_refl _)] at hf
      have hg := glue_len o H40.out
      have hol : o.length * 41 ≤ 140737488355328 := by
        have h1 := HCN.out; have h2 := HL.out
        have : o.length * 41 ≤ 1000000001 * 41 := Nat.mul_le_mul_right _ (by omega)
        omega
      have HF2 := Lib.hid (show foldS [] (partsL l) = some o from hf.symm); have HG := Lib.hid (show (glueL o).length ≤ 140737488355328 by omega); have HOL := Lib.hid (show o.length ≤ 140737488355328 by omega)
      obtain ⟨av, cv, hvf⟩ := own_form HR.out
      subst hvf
      clear hf hg hol
      go_wp2_with fail
      refine (sjoin_any o _ wr (strs_own HR.out) HOL.out HG.out).mono ?_
      rintro e w5 ⟨rfl, hE5⟩
      have HE5 := Lib.hid hE5; clear hE5
      dsimp only
      go_wp2_with fail
      refine (check_any (glueL o) w5 (by have := glue_len o H40.out; have h1 := HCN.out; have h2 := HL.out; have : o.length * 41 ≤ 1000000001 * 41 := Nat.mul_le_mul_right _ (by omega); omega)).mono ?_
      rintro e w6 ⟨rfl, hE6⟩
      have HE6 := Lib.hid (HE5.out.trans' hE6); clear hE6
      have hfin : Ext (fun j => j = ob) w w6 := (HE2.out.mono (fun _ _ s => s.elim)).trans' (HX.out.trans HE6.out (fun _ _ s => s) (fun _ _ s => s.elim))
      have hcl : cleanL l = if checkE (glueL o) = 0 then some (glueL o) else none := by unfold cleanL; rw [HF2.out]; rfl
      have HFIN := Lib.hid hfin; have HCL := Lib.hid hcl
      clear hfin hcl
      have hor := checkE_or (glueL o)
      generalize checkE (glueL o) = ce at *
      dsimp only
      rcases hor with rfl | rfl
      · go_wp2_with fail
        refine (must_ok w6).mono ?_
        rintro e w7 ⟨rfl, rfl⟩
        dsimp only
        go_wp2_with fail
        go_end0
        have hz2 := HE2.out.size
        exact ⟨0, .inl ⟨rfl, rfl⟩, HFIN.out, .inl ⟨rfl, o, _, by rw [HCL.out]; rfl, HG.out, HOL.out, HB.out.ext HE6.out (fun s => s), own_le (own_ext HR.out HE6.out (fun _ _ s => s)) hz2⟩⟩
      · go_wp2_with fail
        refine (must_no 38 (by decide) w6).mono ?_
        rintro e w7 ⟨rfl, rfl⟩
        dsimp only
        exact ⟨rfl, 38, .inr ⟨rfl, by decide⟩, HFIN.out, .inr ⟨rfl, by rw [HCL.out]; rfl⟩⟩

end Go.Proofs.YtajilboimjcfjaaDoor
end

section
/- The contract of path.Clean. -/
namespace Go.Proofs.YtajilboimjcfjaaDoor
open Go.RowKit Go.My

theorem CleanQ.set {l : List UInt8} {ob B eb : Nat} {n : Int} {w1 : World} (h : CleanQ l ob B n w1) (u : Value) (h1 : ob ≠ eb) (h2 : eb < B) : CleanQ l ob B n (w1.setCell ⟨eb, 0, none⟩ u) := by
  rcases h with ⟨hn, o, v, hc, hg, ho, hb, hr⟩ | h
  · have hx : Ext (fun j => j = eb) w1 (w1.setCell ⟨eb, 0, none⟩ u) := (Ext.refl _ w1).setCell _ _ (fun _ => rfl)
    exact .inl ⟨hn, o, v, hc, hg, ho, hb.ext hx h1, own_ext hr hx (fun j hj s => by have := (World.ownsRow.lt hr j hj).1; omega)⟩
  · exact .inr h
/-- what Clean tells -/
def CleanTold (l : List UInt8) (w : World) (e : Ending) (w' : World) : Prop :=
  Ext No w w' ∧ ((∃ c, cleanL l = some c ∧ e = .returned (.tuple #[.string (strB c), .int .i64 0])) ∨ (cleanL l = none ∧ e = .returned (.tuple #[.string ⟨#[]⟩, .int .i64 38])))

set_option maxRecDepth 100000 in
set_option maxHeartbeats 4000000 in
theorem clean_any (l : List UInt8) (w : World) (hl : l.length ≤ 1000000000) : Calls Tryd.prog 9 #[.string (strB l)] w (CleanTold l w) := by
  have hmf := mkf
  obtain ⟨w0, hw0⟩ : ∃ w0, (w.alloc (.cells #[.string (strB l)] 9)).alloc (.cells #[.slice none 0 0] 30) = w0 := ⟨_, rfl⟩
  have hx0 : Ext No w w0 := by rw [← hw0]; exact ((Ext.refl No w).alloc _).alloc _
  have hp0 : Blk w0 w.heap.size #[.string (strB l)] 9 := by rw [← hw0]; exact (Blk.new w _ _).alloc _
  have ho0 : Blk w0 (w.heap.size + 1) #[.slice none 0 0] 30 := by
    rw [← hw0]
    have h := Blk.new (w.alloc (.cells #[.string (strB l)] 9)) #[.slice none 0 0] 30
    rw [World.size_alloc] at h; exact h
  have hsz : w0.heap.size = w.heap.size + 2 := by rw [← hw0]; rw [World.size_alloc, World.size_alloc]
  have hxe : Ext No w0 (w0.alloc (.cells #[.int .i64 0] 23)) := (Ext.refl No w0).alloc _
  have hze : (w0.alloc (.cells #[.int .i64 0] 23)).heap.size = w0.heap.size + 1 := World.size_alloc _ _
  have hcl := clean1_any l w.heap.size (w.heap.size + 1) (w0.alloc (.cells #[.int .i64 0] 23)) (hp0.ext hxe (fun s => s)) (ho0.ext hxe (fun s => s)) hl
  have hrun := run_ext (fun j => j = w.heap.size + 1) 25 #[.pointer (some ⟨w.heap.size, 0, none⟩), .pointer (some ⟨w.heap.size + 1, 0, none⟩)] w0 (CleanQ l (w.heap.size + 1) (w0.heap.size + 1))
    (fun w => by kernel_rfl) (by omega) (fun n w1 h => h.set _ (by omega) (by omega)) (by rw [← hze]; exact hcl)
  have HRUN := Lib.hid hrun; have HX0 := Lib.hid hx0; have HW0 := Lib.hid hw0; have HSZ := Lib.hid hsz
  clear hrun hcl hze hxe hp0 ho0 hx0 hw0 hsz hl
  go_enter Tryd.func9, Tryd.ntmps9
  go_wp2_with fail
  rw [HW0.out]; clear HW0
  refine HRUN.out.mono ?_
  rintro e w1 ⟨n, rfl, hx1, hq⟩
  have HX1 := Lib.hid (HX0.out.trans hx1 (fun _ _ s => s) (fun j hj s => by omega))
  clear hx1
  rcases hq with ⟨rfl, o, v, hc, hg, hol, hb, hr⟩ | ⟨rfl, hc⟩
  · have hcb := hb.cell 0
    simp only [List.getElem?_toArray, List.getElem?_cons_zero] at hcb
    have HC := Lib.hid hc; have HG := Lib.hid hg; have HOL := Lib.hid hol; have HR := Lib.hid hr
    obtain ⟨av, cv, hvf⟩ := own_form hr
    subst hvf
    clear hc hg hol hb hr
    dsimp only
    go_wp2_with fail
    refine (sjoin_any o _ w1 (strs_own HR.out) HOL.out HG.out).mono ?_
    rintro e w2 ⟨rfl, hE2⟩
    have HX2 := Lib.hid (HX1.out.trans' hE2); clear hE2
    dsimp only
    go_wp2_with fail
    go_ret2
    exact ⟨HX2.out, .inl ⟨_, HC.out, rfl⟩⟩
  · have HC := Lib.hid hc; clear hc
    dsimp only
    go_wp2_with fail
    go_ret2
    exact ⟨HX1.out, .inr ⟨HC.out, rfl⟩⟩

end Go.Proofs.YtajilboimjcfjaaDoor
end

section
/- The contracts of cmp.Compare on strings, slices.Compare, path.Less. -/
namespace Go.Proofs.YtajilboimjcfjaaDoor
open Go.RowKit Go.My

set_option maxRecDepth 100000 in
set_option maxHeartbeats 1000000 in
theorem isNaN_any (l : List UInt8) (w : World) : Calls Tryd.prog 53 #[.string (strB l)] w fun e w' => e = .returned (.bool false) ∧ w = w' := by
  go_enter Tryd.func53, Tryd.ntmps53
  go_wp2_with fail
  go_ret
  exact ⟨rfl, rfl⟩
/-- texts compared -/
def cmpL (l k : List UInt8) : Int := if Op.bytesLess l k then -1 else if l = k then 0 else 1
set_option maxRecDepth 100000 in
set_option maxHeartbeats 1000000 in
theorem cmp_any (l k : List UInt8) (w : World) : Calls Tryd.prog 46 #[.string (strB l), .string (strB k)] w fun e w' => e = .returned (.int .i64 (cmpL l k)) ∧ w = w' := by
  have hl := strB_list l
  have hk := strB_list k
  have heq := strB_eq l k
  have hlt : Op.bytesLess (strB l).toList (strB k).toList = Op.bytesLess l k := by rw [hl, hk]
  have hcm : cmpL l k = if Op.bytesLess l k = true then -1 else if l = k then 0 else 1 := rfl
  generalize Op.bytesLess l k = t at *
  have HC := Lib.hid hcm
  clear hl hk hcm
  cases t
  · by_cases he : l = k
    · have hd : ((strB l).toList == (strB k).toList) = true := by rw [heq]; simpa using he
      have HE := Lib.hid he
      clear heq he
      go_enter Tryd.func46, Tryd.ntmps46
      go_wp2_with fail
      refine (isNaN_any l w).mono ?_
      rintro e w' ⟨rfl, rfl⟩
      dsimp only
      go_wp2_with fail
      refine (isNaN_any k w).mono ?_
      rintro e w' ⟨rfl, rfl⟩
      dsimp only
      go_wp2_with fail
      go_ret
      refine ⟨?_, rfl⟩
      rw [HC.out, if_neg (by decide), if_pos HE.out]; rfl
    · have hd : ((strB l).toList == (strB k).toList) = false := by rw [heq]; simpa using he
      have HE := Lib.hid he
      clear heq he
      go_enter Tryd.func46, Tryd.ntmps46
      go_wp2_with fail
      refine (isNaN_any l w).mono ?_
      rintro e w' ⟨rfl, rfl⟩
      dsimp only
      go_wp2_with fail
      refine (isNaN_any k w).mono ?_
      rintro e w' ⟨rfl, rfl⟩
      dsimp only
      go_wp2_with fail
      go_ret
      refine ⟨?_, rfl⟩
      rw [HC.out, if_neg (by decide), if_neg HE.out]; rfl
  · clear heq
    go_enter Tryd.func46, Tryd.ntmps46
    go_wp2_with fail
    refine (isNaN_any l w).mono ?_
    rintro e w' ⟨rfl, rfl⟩
    dsimp only
    go_wp2_with fail
    refine (isNaN_any k w).mono ?_
    rintro e w' ⟨rfl, rfl⟩
    dsimp only
    go_wp2_with fail
    go_ret
    refine ⟨?_, rfl⟩
    rw [HC.out, if_pos trivial]; rfl

/-- rows of texts compared -/
def cmpLs : List (List UInt8) → List (List UInt8) → Int
  | [], [] => 0
  | [], _ :: _ => -1
  | _ :: _, [] => 1
  | x :: xs, y :: ys => if cmpL x y = 0 then cmpLs xs ys else cmpL x y
theorem cmpL_bd (l k : List UInt8) : -1 ≤ cmpL l k ∧ cmpL l k ≤ 1 := by
  unfold cmpL; split
  · omega
  · split <;> omega
theorem drop_get {α : Type} (ls : List α) (d : α) (k : Nat) (h : k < ls.length) : ls.drop k = ls.getD k d :: ls.drop (k + 1) := by
  rw [List.drop_eq_getElem_cons h, List.getD_eq_getElem?_getD, List.getElem?_eq_getElem h]; rfl
set_option maxRecDepth 100000 in
set_option maxHeartbeats 4000000 in
theorem compare_any (ls ks : List (List UInt8)) (v u : Value) (w : World) (h : IsStrs w ls v) (h' : IsStrs w ks u) (hl : ls.length ≤ 1099511627776) :
    Calls Tryd.prog 35 #[v, u] w fun e w' => e = .returned (.int .i64 (cmpLs ls ks)) ∧ w = w' := by
  obtain ⟨a, c, rfl, -⟩ := id h
  obtain ⟨b, d, rfl, -⟩ := id h'
  obtain ⟨n, hn⟩ : ∃ n, n = ls.length := ⟨_, rfl⟩
  obtain ⟨m, hm⟩ : ∃ m, m = ks.length := ⟨_, rfl⟩
  rw [← hn] at h hl ⊢
  rw [← hm] at h' ⊢
  have H := Lib.hid h; have H' := Lib.hid h'; have HN := Lib.hid hn; have HM := Lib.hid hm
  clear h h' hn hm
  go_enter Tryd.func35, Tryd.ntmps35
  go_wp2_with fail
  go_loopw [11] (fun i wr => ∃ k : Nat, i = .int .i64 k ∧ k ≤ n ∧ k ≤ m ∧ wr = w ∧ cmpLs (ls.drop k) (ks.drop k) = cmpLs ls ks) (fun i _ => n - (intOf i).toNat)
  case atStart => exact ⟨0, rfl, Nat.zero_le _, Nat.zero_le _, rfl, rfl⟩
  case round =>
    obtain ⟨k, rfl, hk, hkm, rfl, hc⟩ := hrel
    have HC := Lib.hid hc; clear hc
    by_cases hlt : k < n
    · have hltI : (k : Int) < n := by omega
      obtain ⟨b1, o1, rfl, e1⟩ := strs_get H.out k hlt
      have d1 := drop_get ls [] k (by rw [← HN.out]; exact hlt)
      generalize ls.getD k [] = x at *
      by_cases hlt2 : k < m
      · have hlt2I : ¬ (m : Int) ≤ k := by omega
        have hlt2d : decide ((m : Int) ≤ k) = false := by simp; omega
        obtain ⟨b2, o2, rfl, e2⟩ := strs_get H'.out k hlt2
        have d2 := drop_get ks [] k (by rw [← HM.out]; exact hlt2)
        generalize ks.getD k [] = y at *
        have hc := HC.out
        rw [d1, d2] at hc
        have hc2 : (if cmpL x y = 0 then cmpLs (ls.drop (k + 1)) (ks.drop (k + 1)) else cmpL x y) = cmpLs ls ks := hc
        have HC2 := Lib.hid hc2
        have hkmI : (k : Int) < m := by omega
        clear d1 d2 hc hc2
        go_wp2_with fail
        refine (cmp_any x y wr).mono ?_
        rintro e w2 ⟨rfl, rfl⟩
        have hbd := cmpL_bd x y
        generalize cmpL x y = ce at *
        dsimp only
        by_cases h0 : ce = 0
        · subst h0
          go_wp2_with fail
          go_roundw
          case rel => exact ⟨k + 1, by go_num, by omega, by omega, by trivial, by rw [← HC2.out, if_pos rfl]⟩
          case measure => simp [intOf]; omega
        · go_wp2_with fail
          go_ret
          refine ⟨?_, rfl⟩
          rw [← HC2.out, if_neg h0]; rfl
      · have hmI : (m : Int) ≤ k := by omega
        have d2 : ks.drop k = [] := List.drop_eq_nil_of_le (by rw [← HM.out]; omega)
        have hc := HC.out
        rw [d1, d2] at hc
        have hc2 : (1 : Int) = cmpLs ls ks := hc
        have HC2 := Lib.hid hc2
        clear d1 d2 hc hc2
        go_wp2_with fail
        go_ret
        refine ⟨?_, rfl⟩
        rw [← HC2.out]; rfl
    · have hkn : n = k := by omega
      subst hkn
      have d1 : ls.drop n = [] := List.drop_eq_nil_of_le (by rw [← HN.out]; exact Nat.le_refl _)
      have hc := HC.out
      rw [d1] at hc
      by_cases hnm : n < m
      · have hnmI : (n : Int) < m := by omega
        have d2 := drop_get ks [] n (by rw [← HM.out]; exact hnm)
        rw [d2] at hc
        have hc2 : (-1 : Int) = cmpLs ls ks := hc
        have HC2 := Lib.hid hc2
        clear d1 d2 hc hc2
        go_wp2_with fail
        go_ret
        refine ⟨?_, rfl⟩
        rw [← HC2.out]; rfl
      · have hnmI : decide ((n : Int) < m) = false := by simp; omega
        have d2 : ks.drop n = [] := List.drop_eq_nil_of_le (by rw [← HM.out]; omega)
        rw [d2] at hc
        have hc2 : (0 : Int) = cmpLs ls ks := hc
        have HC2 := Lib.hid hc2
        clear d1 d2 hc hc2
        go_wp2_with fail
        go_ret
        refine ⟨?_, rfl⟩
        rw [← HC2.out]; rfl

def lessB (a b : List UInt8) : Bool := decide (cmpLs (partsL a) (partsL b) < 0)
set_option maxRecDepth 100000 in
set_option maxHeartbeats 2000000 in
theorem less_any (a b : List UInt8) (w : World) (ha : a.length ≤ 1000000000) (hb : b.length ≤ 1000000000) : Calls Tryd.prog 18 #[.string (strB a), .string (strB b)] w fun e w' => e = .returned (.bool (lessB a b)) ∧ Ext No w w' := by
  have HA := Lib.hid ha; have HB := Lib.hid hb
  clear ha hb
  go_enter Tryd.func18, Tryd.ntmps18
  go_wp2_with fail
  refine (parts_any a w).mono ?_
  rintro e w1 ⟨hE1, bp, bs, bv, rfl, hbp, hbs, hbv, hn1, h1, h2, h3⟩
  have HC := Lib.hid (collect_any a bp bs bv w1 hbp hbs hbv (by have := HA.out; omega) hn1)
  have HE1 := Lib.hid hE1; have HS1 := Lib.hid h1
  clear hbp hbs hbv hn1 h1 h2 h3 hE1
  dsimp only
  go_wp2_with fail
  refine HC.out.mono ?_
  rintro e w2 ⟨v2, rfl, ho2, hE2⟩
  have HE2 := Lib.hid (show Ext No w w2 from HE1.out.trans hE2 (fun _ _ s => s) (fun j hj s => by have := HS1.out; omega))
  have hst := strs_own ho2
  have HO2 := Lib.hid hst
  clear ho2 hE2 hst HC HE1 HS1
  dsimp only
  go_wp2_with fail
  refine (parts_any b w2).mono ?_
  rintro e w3 ⟨hE3, bp', bs', bv', rfl, hbp, hbs, hbv, hn1, h1, h2, h3⟩
  have HC := Lib.hid (collect_any b bp' bs' bv' w3 hbp hbs hbv (by have := HB.out; omega) hn1)
  have HE3 := Lib.hid hE3; have HS3 := Lib.hid h1
  clear hbp hbs hbv hn1 h1 h2 h3 hE3
  dsimp only
  go_wp2_with fail
  refine HC.out.mono ?_
  rintro e w4 ⟨v4, rfl, ho4, hE4⟩
  have hE24 : Ext No w2 w4 := HE3.out.trans hE4 (fun _ _ s => s) (fun j hj s => by have := HS3.out; omega)
  have HE4 := Lib.hid (HE2.out.trans' hE24)
  have HO4 := Lib.hid (strs_own ho4); have HO2' := Lib.hid (HO2.out.ext0 hE24)
  clear ho4 hE4 hE24 HC HE3 HS3 HO2 HE2
  dsimp only
  go_wp2_with fail
  refine (compare_any _ _ _ _ w4 HO2'.out HO4.out (by have := partsL_count a; have := HA.out; omega)).mono ?_
  rintro e w5 ⟨rfl, rfl⟩
  have HD := Lib.hid (show lessB a b = decide (cmpLs (partsL a) (partsL b) < 0) from rfl)
  generalize cmpLs (partsL a) (partsL b) = ce at *
  dsimp only
  go_wp2_with fail
  go_ret
  refine ⟨?_, HE4.out⟩
  rw [HD.out]; rfl

end Go.Proofs.YtajilboimjcfjaaDoor
end
