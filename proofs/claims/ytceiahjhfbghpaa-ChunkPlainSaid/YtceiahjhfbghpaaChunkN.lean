/- The plain laws of ChunkCuts and ChunkPlain. -/
import Derived.Test.YtceiahjhfbghpaaChunkK
namespace Go.Proofs.Ytceiahjhfbghpaa
open Go.RowKit Go.My

theorem endAt_take (p : Prm) (l : List UInt8) (n i : Nat) (h : i ≤ n) : endAt p (l.take n) i = endAt p l i := by
  unfold endAt
  rw [List.take_take, Nat.min_eq_left h]
theorem firstLen_take (p : Prm) (hp : p.Ok) (l : List UInt8) (n : Nat) (h0 : 0 < l.length) (h : firstLen p l ≤ n) : firstLen p (l.take n) = firstLen p l := by
  have hr := firstLen_pos p l hp h0
  have hl := firstLen_le p l
  have hm := firstLen_mx p l
  unfold firstLen at hr hl hm h ⊢
  refine scan_unique _ _ _ hr ?_ ?_ ?_
  · rw [List.length_take]; omega
  · rcases scan_hit (endAt p l) 0 (min l.length p.mx) with e | e
    · rw [List.length_take]
      rcases Nat.lt_or_ge p.mx l.length with hx | hx
      · left; rw [e]; omega
      · left; rw [e]; omega
    · right; rw [endAt_take p l n _ h]; exact e
  · intro i h1 h2
    rw [endAt_take p l n i (by omega)]
    exact scan_before (endAt p l) 0 _ i h1 h2
theorem offs_cons (p : Prm) (hp : p.Ok) (l : List UInt8) (h0 : 0 < l.length) (k : Nat) : offs p l (k + 1) = firstLen p l + offs p (l.drop (firstLen p l)) k := by
  unfold offs
  rw [chunks_cons p hp l h0, List.take_succ_cons, List.flatten_cons, List.length_append, List.length_take]
  have := firstLen_le p l
  omega
/-- what is cut at an end has the chunks ahead of it -/
theorem chunks_take (p : Prm) (hp : p.Ok) : ∀ (k : Nat) (l : List UInt8), k ≤ (chunks p l).length → chunks p (l.take (offs p l k)) = (chunks p l).take k := by
  intro k
  induction k with
  | zero => intro l _; rw [show offs p l 0 = 0 from rfl, List.take_zero, List.take_zero]; exact chunks_nil p
  | succ k ih =>
    intro l hk
    have h0 : 0 < l.length := by
      rcases Nat.eq_zero_or_pos l.length with h | h
      · have : l = [] := List.length_eq_zero_iff.1 h
        subst this; rw [chunks_nil] at hk; simp at hk
      · exact h
    have hc := chunks_cons p hp l h0
    have hpos := firstLen_pos p l hp h0
    have hle := firstLen_le p l
    have ho := offs_cons p hp l h0 k
    rw [hc, List.length_cons] at hk
    have hL := offs_le p hp (l.drop (firstLen p l)) k
    rw [List.length_drop] at hL
    have hlen : 0 < (l.take (offs p l (k + 1))).length := by rw [List.length_take, ho]; omega
    rw [chunks_cons p hp _ hlen, firstLen_take p hp l _ h0 (by omega), hc, List.take_succ_cons, List.take_take, Nat.min_eq_left (by omega)]
    congr 1
    rw [← ih (l.drop (firstLen p l)) (by omega), ho, List.drop_take, Nat.add_sub_cancel_left]
theorem chunks_one (p : Prm) (hp : p.Ok) (l : List UInt8) (k : Nat) (hk : k < (chunks p l).length) : (chunks p ((chunks p l).getD k [])).length = 1 := by
  have ho := offs_lt p hp l k hk
  rw [chunk_is p hp l k hk]
  generalize hl' : l.drop (offs p l k) = r
  have h0 : 0 < r.length := by rw [← hl', List.length_drop]; omega
  have hpos := firstLen_pos p r hp h0
  have hle := firstLen_le p r
  rw [chunks_cons p hp _ (by rw [List.length_take]; omega), firstLen_take p hp r _ h0 (Nat.le_refl _), List.drop_eq_nil_of_le (by rw [List.length_take]; omega), chunks_nil]
  rfl

/-- the same, with Max as Min -/
def evenP (p : Prm) : Prm := { p with mx := p.mn }
theorem even_ok {p : Prm} (h : p.Ok) : (evenP p).Ok := ⟨h.mn, Nat.le_refl _, by show p.mn ≤ 65536; have := h.mx; have := h.mx2; omega, h.bt, h.wd, h.wd2⟩
theorem even_count (p : Prm) (hp : p.Ok) (hm : p.mn = p.mx) : ∀ (d : Nat) (l : List UInt8), l.length ≤ d → (chunks p l).length = (l.length + p.mn - 1) / p.mn := by
  have h1 := hp.mn
  intro d
  induction d with
  | zero =>
    intro l h
    have : l = [] := List.length_eq_zero_iff.1 (by omega)
    subst this
    rw [chunks_nil]
    simp only [List.length_nil]
    rw [Nat.div_eq_of_lt (by omega)]
  | succ d ih =>
    intro l h
    rcases Nat.eq_zero_or_pos l.length with h0 | h0
    · have : l = [] := List.length_eq_zero_iff.1 h0
      subst this
      rw [chunks_nil]
      simp only [List.length_nil]
      rw [Nat.div_eq_of_lt (by omega)]
    · rw [chunks_cons p hp l h0, firstLen_even p hm l h0 (by omega), List.length_cons, ih _ (by rw [List.length_drop]; omega), List.length_drop]
      rcases Nat.lt_or_ge l.length p.mx with hx | hx
      · rw [Nat.min_eq_left (by omega), Nat.sub_self, Nat.div_eq_of_lt (by omega)]
        have : (l.length + p.mn - 1) / p.mn = 1 := by
          rw [show l.length + p.mn - 1 = (l.length - 1) + p.mn by omega, Nat.add_div_right _ (by omega), Nat.div_eq_of_lt (by omega)]
        omega
      · rw [Nat.min_eq_right hx, ← hm]
        rw [show l.length + p.mn - 1 = (l.length - p.mn + p.mn - 1) + p.mn by omega, Nat.add_div_right _ (by omega)]
theorem join_take (p : Prm) (l : List UInt8) (k : Nat) : ((chunks p l).take k).flatten.length = offs p l k := rfl

end Go.Proofs.Ytceiahjhfbghpaa
