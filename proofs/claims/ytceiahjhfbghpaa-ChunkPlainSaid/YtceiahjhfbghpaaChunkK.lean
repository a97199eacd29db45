/- The plain laws of ChunkShifts and ChunkCuts. -/
import Derived.Test.YtceiahjhfbghpaaChunkJ
import Derived.Test.YtceiahjhfbghpaaJoin
import Derived.Test.YtceiahjhfbghpaaIMap
namespace Go.Proofs.Ytceiahjhfbghpaa
open Go.RowKit Go.My

theorem cut_at (p : Prm) (hp : p.Ok) (l : List UInt8) : ∀ k, k ≤ (chunks p l).length → CutAt p l k (offs p l k) := by
  intro k
  induction k with
  | zero => intro _; have := CutAt.start p l; rw [show offs p l 0 = 0 from rfl]; exact this
  | succ k ih =>
    intro hk
    have h := ih (by omega)
    have ho : offs p l k < l.length := by
      rcases Nat.lt_or_ge (offs p l k) l.length with h' | h'
      · exact h'
      · have := h.done h'; omega
    obtain ⟨_, hg, _, hle, hn⟩ := h.here hp ho
    rw [offs_succ p l k (by omega), hg, List.length_take, List.length_drop, Nat.min_eq_left (by omega)]
    exact hn
theorem offs_lt (p : Prm) (hp : p.Ok) (l : List UInt8) (k : Nat) (hk : k < (chunks p l).length) : offs p l k < l.length := by
  rcases Nat.lt_or_ge (offs p l k) l.length with h' | h'
  · exact h'
  · have := (cut_at p hp l k (by omega)).done h'; omega
theorem offs_all (p : Prm) (hp : p.Ok) (l : List UInt8) : offs p l (chunks p l).length = l.length := by
  unfold offs; rw [List.take_length, chunks_flat p hp l]
theorem chunk_is (p : Prm) (hp : p.Ok) (l : List UInt8) (k : Nat) (hk : k < (chunks p l).length) : (chunks p l).getD k [] = (l.drop (offs p l k)).take (firstLen p (l.drop (offs p l k))) :=
  ((cut_at p hp l k (by omega)).here hp (offs_lt p hp l k hk)).2.1
theorem chunk_mx (p : Prm) (hp : p.Ok) (l : List UInt8) (k : Nat) (hk : k < (chunks p l).length) : ((chunks p l).getD k []).length ≤ p.mx := by
  rw [chunk_is p hp l k hk, List.length_take]
  have := firstLen_mx p (l.drop (offs p l k)); omega
theorem firstLen_mn (p : Prm) (hp : p.Ok) (l : List UInt8) (h : firstLen p l < p.mn) : firstLen p l = l.length := by
  have hd := scan_hit (endAt p l) 0 (min l.length p.mx)
  rcases hd with h1 | h1
  · have : firstLen p l = 0 + min l.length p.mx := h1
    have := hp.mx; omega
  · have : endAt p l (firstLen p l) = true := h1
    unfold endAt at this
    rw [show decide (p.mn ≤ firstLen p l) = false by simp; omega] at this
    cases this
theorem chunk_mn (p : Prm) (hp : p.Ok) (l : List UInt8) (k : Nat) (hk : k + 1 < (chunks p l).length) : p.mn ≤ ((chunks p l).getD k []).length := by
  have hc := chunk_is p hp l k (by omega)
  have ho := offs_lt p hp l k (by omega)
  have ho2 := offs_lt p hp l (k + 1) hk
  rw [offs_succ p l k (by omega), hc, List.length_take, List.length_drop] at ho2
  rw [hc, List.length_take, List.length_drop]
  rcases Nat.lt_or_ge (firstLen p (l.drop (offs p l k))) p.mn with h | h
  · have := firstLen_mn p hp _ h
    rw [List.length_drop] at this; omega
  · have := firstLen_le p (l.drop (offs p l k))
    rw [List.length_drop] at this; omega

/-- the ends of the first k chunks, with their numbers -/
def endsG (p : Prm) (l : List UInt8) : Nat → Int → Option Int
  | 0 => fun _ => none
  | k + 1 => fun y => if y = ((offs p l (k + 1) : Nat) : Int) then some ((k : Int) + 1) else endsG p l k y
theorem endsG_some (p : Prm) (l : List UInt8) : ∀ (k : Nat) (y c : Int), endsG p l k y = some c → ∃ j : Nat, 1 ≤ j ∧ j ≤ k ∧ y = ((offs p l j : Nat) : Int) ∧ c = j := by
  intro k
  induction k with
  | zero => intro y c h; cases h
  | succ k ih =>
    intro y c h
    simp only [endsG] at h
    split at h
    · rename_i hy
      simp at h
      exact ⟨k + 1, by omega, by omega, hy, by omega⟩
    · obtain ⟨j, h1, h2, h3, h4⟩ := ih y c h
      exact ⟨j, h1, by omega, h3, h4⟩
theorem endsG_has (p : Prm) (l : List UInt8) : ∀ (k j : Nat), 1 ≤ j → j ≤ k → (endsG p l k ((offs p l j : Nat) : Int)).isSome = true := by
  intro k
  induction k with
  | zero => intro j h1 h2; omega
  | succ k ih =>
    intro j h1 h2
    simp only [endsG]
    split
    · rfl
    · rename_i hne
      refine ih j h1 ?_
      rcases Nat.lt_or_ge k j with h | h
      · have : j = k + 1 := by omega
        subst this; exact absurd rfl hne
      · exact h
/-- behind a common end the chunks are the same -/
theorem shift_same (p : Prm) (hp : p.Ok) (a b : List UInt8) (i j : Nat) (hi : i ≤ (chunks p (a ++ b)).length) (hj : j ≤ (chunks p b).length) (h : offs p (a ++ b) i = a.length + offs p b j) :
    (chunks p (a ++ b)).drop i = (chunks p b).drop j := by
  rw [← (cut_at p hp (a ++ b) i hi).rest, ← (cut_at p hp b j hj).rest, h]
  congr 1
  rw [← List.drop_drop, List.drop_left]
theorem shift_end (p : Prm) (hp : p.Ok) (a b : List UInt8) (h : ∀ j, 1 ≤ j → j ≤ (chunks p (a ++ b)).length → endsG p b (chunks p b).length (((offs p (a ++ b) j : Nat) : Int) - a.length) = none) : b = [] := by
  rcases Nat.eq_zero_or_pos b.length with h0 | h0
  · exact List.length_eq_zero_iff.1 h0
  · have h1 := offs_all p hp (a ++ b)
    have h2 := offs_all p hp b
    have n1 : 1 ≤ (chunks p (a ++ b)).length := by
      rcases Nat.eq_zero_or_pos (chunks p (a ++ b)).length with e | e
      · rw [e] at h1; have e0 : offs p (a ++ b) 0 = 0 := rfl
        rw [e0, List.length_append] at h1; omega
      · exact e
    have n2 : 1 ≤ (chunks p b).length := by
      rcases Nat.eq_zero_or_pos (chunks p b).length with e | e
      · rw [e] at h2; have e0 : offs p b 0 = 0 := rfl
        rw [e0] at h2; omega
      · exact e
    have h3 := h _ n1 (Nat.le_refl _)
    have h4 := endsG_has p b _ _ n2 (Nat.le_refl _)
    rw [h1, List.length_append] at h3
    rw [h2] at h4
    rw [show (((a.length + b.length : Nat) : Int) - a.length) = ((b.length : Nat) : Int) by omega] at h3
    rw [h3] at h4
    cases h4

end Go.Proofs.Ytceiahjhfbghpaa
