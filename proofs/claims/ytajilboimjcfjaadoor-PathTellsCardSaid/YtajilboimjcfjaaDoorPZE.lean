/-
  JOINED (5): path.Check of a text of any length; Clean and Join, told as functions.
-/
import Derived.Test.YtajilboimjcfjaaDoorPZD
set_option linter.unusedVariables false
set_option linter.unusedSimpArgs false

section
/- path.Check of a text of any length; what Clean tells, as a value. -/
namespace Go.Proofs.YtajilboimjcfjaaDoor
open Go.RowKit Go.My

set_option maxRecDepth 100000 in
set_option maxHeartbeats 2000000 in
theorem check_all (l : List UInt8) (w : World) (hl : l.length ≤ 9223372036854775807) :
    Calls Tryd.prog 13 #[.string (strB l)] w fun e w' => e = .returned (.int .i64 (checkE l)) ∧ Ext No w w' := by
  by_cases h : l.length ≤ 120
  · exact check_any l w (by omega)
  have hz := strB_size l
  obtain ⟨n, hn⟩ : ∃ n, n = l.length := ⟨_, rfl⟩
  rw [← hn] at hz h
  have HN := Lib.hid hn
  clear hn hl
  refine (callsIn_wide (n := 0)).1 ?_
  refine callsIn_of_wp_marks Tryd.func13 rfl trivial ?_ rfl
  simp only [Tryd.ntmps13, List.size_toArray, List.length_cons, List.length_nil, Nat.reduceAdd, Nat.reduceSub, Array.replicate_succ, Array.replicate_zero, List.push_toArray, List.append_toArray, List.nil_append, List.cons_append]
  have h120i : (120 : Int) < n := by omega
  have h120 : 120 < n := by omega
  have hr : (w.alloc (.cells #[.int .i64 38] 23)).cell? ⟨w.heap.size, 0, none⟩ = some (.int .i64 38) := (Blk.new w #[.int .i64 38] 23).cell 0
  have hck : checkE l = 38 := by unfold checkE; rw [if_pos (by rw [← HN.out]; exact h120)]
  rw [hck]
  clear hck h
  gi_wp2_with fail
  exact ⟨.int .i64 38, by simp [results, Tryd.func13, Tryd.f13, go_sem, hr], rfl, (Ext.refl No w).alloc _⟩

/-- what Clean hands back -/
def cleanT (l : List UInt8) : Value := match cleanL l with
  | some c => .tuple #[.string (strB c), .int .i64 0]
  | none => .tuple #[.string ⟨#[]⟩, .int .i64 38]
theorem cleanT_any (l : List UInt8) (w : World) (hl : l.length ≤ 1000000000) : Calls Tryd.prog 9 #[.string (strB l)] w fun e w' => e = .returned (cleanT l) ∧ Ext No w w' := by
  refine (clean_any l w hl).mono ?_
  rintro e w' ⟨hE, ⟨c, hc, rfl⟩ | ⟨hc, rfl⟩⟩
  · exact ⟨by unfold cleanT; rw [hc], hE⟩
  · exact ⟨by unfold cleanT; rw [hc], hE⟩
theorem cleanT_some {l c : List UInt8} (h : cleanL l = some c) : cleanT l = .tuple #[.string (strB c), .int .i64 0] := by unfold cleanT; rw [h]
theorem cleanT_none {l : List UInt8} (h : cleanL l = none) : cleanT l = .tuple #[.string ⟨#[]⟩, .int .i64 38] := by unfold cleanT; rw [h]
theorem join_all (l k : List UInt8) (w : World) (hb : l.length + k.length + 1 ≤ 1099511627776) :
    Calls Tryd.prog 17 #[.string (strB l), .string (strB k)] w fun e w' => e = .returned (.string (strB (joinL l k))) ∧ w = w' := join_any l k w hb

end Go.Proofs.YtajilboimjcfjaaDoor
end
