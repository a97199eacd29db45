/- The iterator over all chunks. -/
import Derived.Test.YtceiahjhfbghpaaChunkC
namespace Go.Proofs.Ytceiahjhfbghpaa
open Go.RowKit Go.My Go.Shelf

attribute [local go_sem] Oper.semAt_some drop8c cut8c

structure CutAt (p : Prm) (l : List UInt8) (k o : Nat) : Prop where
  off : o = offs p l k
  rest : chunks p (l.drop o) = (chunks p l).drop k
  le : o ≤ l.length
  kle : k ≤ (chunks p l).length
theorem CutAt.start (p : Prm) (l : List UInt8) : CutAt p l 0 0 := ⟨by simp [offs], by simp, by omega, by omega⟩
theorem CutAt.here {p : Prm} {l : List UInt8} {k o : Nat} (h : CutAt p l k o) (hp : p.Ok) (ho : o < l.length) :
    k < (chunks p l).length ∧ (chunks p l).getD k [] = (l.drop o).take (firstLen p (l.drop o)) ∧ 0 < firstLen p (l.drop o) ∧ o + firstLen p (l.drop o) ≤ l.length ∧ CutAt p l (k + 1) (o + firstLen p (l.drop o)) := by
  have hpos : 0 < (l.drop o).length := by rw [List.length_drop]; omega
  have hc := chunks_cons p hp (l.drop o) hpos
  rw [h.rest] at hc
  have hk : k < (chunks p l).length := by
    rcases Nat.lt_or_ge k (chunks p l).length with h' | h'
    · exact h'
    · rw [List.drop_eq_nil_of_le h'] at hc; cases hc
  rw [List.drop_eq_getElem_cons hk] at hc
  have hl := firstLen_le p (l.drop o)
  rw [List.length_drop] at hl
  obtain ⟨h1, h2⟩ := List.cons.inj hc
  refine ⟨hk, by rw [← h1]; simp [List.getD_eq_getElem?_getD, List.getElem?_eq_getElem hk], firstLen_pos p _ hp hpos, by omega, ?_, ?_, by omega, hk⟩
  · have ho' := h.off
    unfold offs at ho' ⊢
    rw [List.take_add_one, List.flatten_append, List.length_append, ← ho']
    simp only [List.getElem?_eq_getElem hk, Option.toList_some, List.flatten_cons, List.flatten_nil, List.append_nil]
    rw [h1, List.length_take, List.length_drop]
    omega
  · rw [← List.drop_drop, h2]
theorem CutAt.done {p : Prm} {l : List UInt8} {k o : Nat} (h : CutAt p l k o) (ho : l.length ≤ o) : (chunks p l).length ≤ k := by
  have hr := h.rest
  rw [List.drop_eq_nil_of_le ho, chunks_nil] at hr
  exact List.drop_eq_nil_iff.1 hr.symm

/-- what is handed out -/
def Handed (B : Nat) (p : Prm) (l : List UInt8) (k : Nat) (args : Array Value) (W : World) : Prop :=
  ∃ x, args = #[.int .i64 (offs p l k : Nat), x] ∧ OwnB W 5 B ((chunks p l).getD k []) x

set_option maxRecDepth 100000 in
set_option maxHeartbeats 8000000 in
theorem all_seq (bb cc cb wb lb tb : Nat) (p : Prm) (hp : p.Ok) (l : List UInt8) (v : Value) (w : World) (h : AllIn w bb cc cb wb lb tb p l v) (hl : l.length ≤ 1099511627776) (T : Nat → Prop)
    (hT : ∀ k, T k → k ≠ bb ∧ k ≠ cc ∧ k ≠ cb ∧ k ≠ wb ∧ k ≠ lb ∧ k ≠ tb) (hTv : ∀ k, v.ownBlock = some k → 0 < l.length → ¬ T k) :
    SeqC Try.prog 26 #[.pointer (some ⟨bb, 0, none⟩), .pointer (some ⟨cc, 0, none⟩)] (chunks p l).length (Handed (w.heap.size + 2) p l) (fun k => k = wb ∨ k = lb) T (fun W => AllIn W bb cc cb wb lb tb p l v) w := by
  intro y J Jx W hW hsz hJ hJx hY h0
  have h1 := h.ext0 hW
  obtain ⟨a, cap, rfl, hc1, hc2, -⟩ := h1.row
  obtain ⟨m, hm⟩ : ∃ m, m = l.length := ⟨_, rfl⟩
  rw [← hm] at hc1 h1 hTv
  have HM := Lib.hid hm; have HA := Lib.hid h1; have HP := Lib.hid hp; have HT := Lib.hid (And.intro hT hTv); have H0 := Lib.hid h0; have HSZ := Lib.hid hsz
  have HL := Lib.hid hl
  clear hm h1 hp hT hTv h0 h hsz hW hl
  refine (callsIn_wide (n := 0)).1 ?_
  show CallsIn Fence.wide 0 Try.prog _ #[.func (.yield y) #[] #[], .pointer (some ⟨bb, 0, none⟩), .pointer (some ⟨cc, 0, none⟩)] W _
  refine callsIn_of_wp Try.func26 rfl trivial ?_ rfl
  simp only [Try.ntmps26, List.size_toArray, List.length_cons, List.length_nil, Nat.reduceAdd, Nat.reduceSub, Array.replicate_succ, Array.replicate_zero, List.push_toArray, List.append_toArray, List.nil_append, List.cons_append]
  gi_wp2_with fail
  gi_loopw [4, 5] (fun i _ wr => ∃ (k o : Nat), i = .int .i64 o ∧ CutAt p l k o ∧ J k wr ∧ AllIn wr bb cc cb wb lb tb p l (.slice a m cap) ∧ w.heap.size + 2 ≤ wr.heap.size) (fun i _ _ => m - (intOf i).toNat)
  case atStart => exact ⟨0, 0, rfl, CutAt.start p l, H0.out, HA.out, HSZ.out⟩
  case round =>
    obtain ⟨k, o, rfl, hk, hj, ha, hz⟩ := hrel
    have hb := ha.bbox.cell 0
    have hcc := ha.cbox.cell 0
    simp only [List.getElem?_toArray, List.getElem?_cons_zero] at hb hcc
    have HK := Lib.hid hk; have HJ := Lib.hid hj; have HR := Lib.hid ha; have HZ := Lib.hid hz
    clear hk hj ha hz H0 HA HSZ
    by_cases hlt : o < m
    · obtain ⟨b, off, ha, -⟩ := IsRow.get HR.out.row o hlt
      subst ha
      obtain ⟨hkN, hget, hpos, hle, hnext⟩ := HK.out.here HP.out (by rw [← HM.out]; exact hlt)
      have HKN := Lib.hid hkN; have HGET := Lib.hid hget; have HPOS := Lib.hid hpos; have HNX := Lib.hid hnext
      rw [← HM.out] at hle
      have HLE := Lib.hid hle; clear hkN hget hpos hle hnext
      have hoc : o < cap := by omega
      have hmx : m ≤ 9223372036854775807 := by have := HM.out; have := HL.out; omega
      gi_wp2_with fail
      have hmxo : Try.prog.follows .mixedOrders = true := by kernel_rfl

      gi_region_with_o (refine ⟨trivial, rfl, ?_⟩; gi_at_call 14; refine (callsIn_wide.2 (first_all bb cc cb wb lb tb p HP.out l b off m cap o _ wr HR.out.drew (Ext.refl _ _).drew hlt hmx)).mono ?_; rintro e w2 ⟨rfl, ha2, hx2⟩; have HR2 := Lib.hid ha2; have HX2 := Lib.hid hx2; clear ha2 hx2)
      all_goals
        clear hb hcc
        have hb2 := HR2.out.bbox.cell 0
        simp only [List.getElem?_toArray, List.getElem?_cons_zero] at hb2
        generalize hf : firstLen p (List.drop o l) = f at *
        clear hf
        have hpos := HPOS.out
        have hfc : o + f ≤ cap := by have := HLE.out; omega
        have hj2 := hJ _ _ _ HJ.out HX2.out
        gi_wp2_with (refine ⟨trivial, rfl, ?_⟩; gi_at_call 27; refine (callsIn_wide.2 (clone_any ((l.drop o).take f) _ f (cap - o) w2 (takeD8 w2 l b off m cap o f HR2.out.row HLE.out) (by have := HL.out; simp; omega))).mono ?_; rintro e w3 ⟨x, rfl, hown, hx3⟩; obtain ⟨fn, tmps, assign, body, hy, hR⟩ := hY k #[.int .i64 o, x] w3 HKN.out (hJ _ _ _ hj2 (hx3.mono (fun _ _ h => h.elim))) ⟨x, by rw [← HK.out.off], by rw [HGET.out]; exact own_le hown (by have := HX2.out.size; have := HZ.out; omega)⟩; have HR3 := Lib.hid (HR2.out.ext0 hx3); have HX3 := Lib.hid hx3; clear hx3 hown)
        refine ⟨rfl, hR.mono ?_⟩
        have hsz3 : w.heap.size + 2 ≤ w3.heap.size := by have := HX2.out.size; have := HX3.out.size; have := HZ.out; omega
        have HSZ3 := Lib.hid hsz3
        clear hR hy hsz3
        rintro e w4 (⟨rfl, hj4, hx4⟩ | ⟨rfl, hj4, hx4⟩) <;> have ha4 := HR3.out.ext hx4 HT.out.1 (fun k hk h0 => HT.out.2 k hk (by rw [HM.out]; exact h0))
        · have HA4 := Lib.hid ha4; have HX4 := Lib.hid hx4; have HJ4 := Lib.hid hj4; clear ha4 hx4 hj4
          clear hj2
          have H9 : o + f ≤ 9223372036854775807 := by omega
          dsimp only
          gi_wp2_with fail
          go_roundw
          case rel => exact ⟨k + 1, o + f, by go_num, HNX.out, HJ4.out, HA4.out, by have := HX4.out.size; have := HSZ3.out; omega⟩
          case measure => simp [intOf]; omega
        · have HJ4 := Lib.hid hj4; have HA4 := Lib.hid ha4; clear hj2 hj4 ha4 hx4
          dsimp only
          gi_wp2_with fail
          refine bodyPost_ret (results_none rfl _ _ _) rfl ?_
          exact ⟨⟨_, rfl⟩, .inr ⟨k + 1, HKN.out, HJ4.out⟩, by rw [← HM.out]; exact HA4.out⟩
    · have hN := HK.out.done (by rw [← HM.out]; omega)
      have HN := Lib.hid hN; clear hN
      gi_wp2_with fail
      go_end0
      refine ⟨⟨_, rfl⟩, ?_⟩
      have hkn : k = (chunks p l).length := by have := HN.out; have := HK.out.kle; omega
      exact ⟨.inl (hkn ▸ HJ.out), by rw [← HM.out]; exact HR.out⟩

end Go.Proofs.Ytceiahjhfbghpaa
