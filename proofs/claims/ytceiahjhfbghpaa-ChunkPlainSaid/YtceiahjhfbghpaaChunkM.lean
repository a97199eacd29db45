/- Plain laws on cutting bytes: no program in sight. -/
import Derived.Test.YtceiahjhfbghpaaRolC
namespace Go.Proofs.Ytceiahjhfbghpaa
open Go.RowKit Go.My

/-- the first number above k, up to d numbers on, of which f holds; else the last one -/
def scan (f : Nat → Bool) : Nat → Nat → Nat
  | k, 0 => k
  | k, d + 1 => if f (k + 1) then k + 1 else scan f (k + 1) d
theorem scan_le (f : Nat → Bool) (k d : Nat) : scan f k d ≤ k + d := by
  induction d generalizing k with
  | zero => exact Nat.le_refl _
  | succ d ih => unfold scan; split; omega; have := ih (k + 1); omega
theorem scan_ge (f : Nat → Bool) (k d : Nat) : k ≤ scan f k d := by
  induction d generalizing k with
  | zero => exact Nat.le_refl _
  | succ d ih => unfold scan; split; omega; have := ih (k + 1); omega
theorem scan_pos (f : Nat → Bool) (k d : Nat) (h : 0 < d) : k < scan f k d := by
  cases d with
  | zero => omega
  | succ d => unfold scan; split; omega; have := scan_ge f (k + 1) d; omega
theorem scan_yes (f : Nat → Bool) (k d : Nat) (h : f (k + 1) = true) (hd : 0 < d) : scan f k d = k + 1 := by
  cases d with
  | zero => omega
  | succ d => unfold scan; rw [if_pos h]
theorem scan_no (f : Nat → Bool) (k d : Nat) (h : f (k + 1) = false) (hd : 0 < d) : scan f k d = scan f (k + 1) (d - 1) := by
  cases d with
  | zero => omega
  | succ d => rw [scan, h]; simp
theorem scan_congr (f g : Nat → Bool) (k d : Nat) (h : ∀ n, k < n → n ≤ k + d → f n = g n) : scan f k d = scan g k d := by
  induction d generalizing k with
  | zero => rfl
  | succ d ih => unfold scan; rw [h (k + 1) (by omega) (by omega), ih (k + 1) (fun n h1 h2 => h n (by omega) (by omega))]
theorem scan_hit (f : Nat → Bool) (k d : Nat) : scan f k d = k + d ∨ f (scan f k d) = true := by
  induction d generalizing k with
  | zero => exact .inl rfl
  | succ d ih =>
    unfold scan; split
    · exact .inr (by assumption)
    · rcases ih (k + 1) with h | h
      · exact .inl (by omega)
      · exact .inr h
theorem scan_before (f : Nat → Bool) (k d : Nat) : ∀ n, k < n → n < scan f k d → f n = false := by
  induction d generalizing k with
  | zero => intro n h1 h2; simp [scan] at h2; omega
  | succ d ih =>
    intro n h1 h2
    unfold scan at h2
    split at h2
    · omega
    · rename_i hk
      by_cases e : n = k + 1
      · subst e; simpa using hk
      · exact ih (k + 1) n (by omega) h2
theorem scan_unique (f : Nat → Bool) (d n : Nat) (h0 : 0 < n) (hn : n ≤ d) (h1 : n = d ∨ f n = true) (h2 : ∀ i, 0 < i → i < n → f i = false) : scan f 0 d = n := by
  have a := scan_le f 0 d
  have b := scan_pos f 0 d (by omega)
  rcases Nat.lt_trichotomy (scan f 0 d) n with h | h | h
  · rcases scan_hit f 0 d with e | e
    · omega
    · rw [h2 _ b h] at e; cases e
  · exact h
  · rcases h1 with e | e
    · omega
    · rw [scan_before f 0 d n h0 h] at e; cases e

/-- how bytes are cut -/
structure Prm where
  mn : Nat
  mx : Nat
  bt : Nat
  wd : Nat
  sd : BitVec 64
structure Prm.Ok (p : Prm) : Prop where
  mn : 1 ≤ p.mn
  mx : p.mn ≤ p.mx
  mx2 : p.mx ≤ 65536
  bt : p.bt ≤ 20
  wd : 1 ≤ p.wd
  wd2 : p.wd ≤ 64
/-- may a chunk end behind n bytes? -/
def endAt (p : Prm) (l : List UInt8) (n : Nat) : Bool := decide (p.mn ≤ n) && decide ((rollTo p.sd (Roll.lastN p.wd (l.take n))).toNat % 2 ^ p.bt = 0)
def firstLen (p : Prm) (l : List UInt8) : Nat := scan (endAt p l) 0 (min l.length p.mx)
theorem firstLen_le (p : Prm) (l : List UInt8) : firstLen p l ≤ l.length := by have := scan_le (endAt p l) 0 (min l.length p.mx); unfold firstLen; omega
theorem firstLen_mx (p : Prm) (l : List UInt8) : firstLen p l ≤ p.mx := by have := scan_le (endAt p l) 0 (min l.length p.mx); unfold firstLen; omega
theorem firstLen_pos (p : Prm) (l : List UInt8) (hp : p.Ok) (h : 0 < l.length) : 0 < firstLen p l := scan_pos _ _ _ (by have := hp.mn; have := hp.mx; omega)

/-- all chunks, by fuel -/
def cuts (p : Prm) : Nat → List UInt8 → List (List UInt8)
  | 0, _ => []
  | d + 1, l => if l = [] then [] else l.take (firstLen p l) :: cuts p d (l.drop (firstLen p l))
def chunks (p : Prm) (l : List UInt8) : List (List UInt8) := cuts p l.length l
theorem cuts_more (p : Prm) (hp : p.Ok) (d : Nat) : ∀ l : List UInt8, l.length ≤ d → cuts p d l = cuts p l.length l := by
  induction d with
  | zero => intro l h; rw [show l.length = 0 by omega]
  | succ d ih =>
    intro l h
    cases l with
    | nil => rfl
    | cons c t =>
      have hpos := firstLen_pos p (c :: t) hp (by simp)
      have hl : ((c :: t).drop (firstLen p (c :: t))).length ≤ t.length := by rw [List.length_drop, List.length_cons]; omega
      rw [List.length_cons, cuts, cuts, if_neg (by simp), if_neg (by simp), ih _ (by rw [List.length_cons] at h; omega)]
      congr 1
      clear ih h
      generalize (c :: t).drop (firstLen p (c :: t)) = r at hl ⊢
      -- both by the same induction on fuel
      have key : ∀ (a b : Nat) (r : List UInt8), r.length ≤ a → r.length ≤ b → cuts p a r = cuts p b r := by
        intro a
        induction a with
        | zero => intro b r h1 h2; have : r = [] := List.length_eq_zero_iff.1 (by omega); subst this; cases b <;> rfl
        | succ a iha =>
          intro b r h1 h2
          cases b with
          | zero => have : r = [] := List.length_eq_zero_iff.1 (by omega); subst this; rfl
          | succ b =>
            rw [cuts, cuts]
            by_cases hr : r = []
            · rw [if_pos hr, if_pos hr]
            · have := firstLen_pos p r hp (List.length_pos_iff.2 hr)
              rw [if_neg hr, if_neg hr, iha b _ (by rw [List.length_drop]; omega) (by rw [List.length_drop]; omega)]
      exact key _ _ _ (Nat.le_refl _) hl
theorem chunks_nil (p : Prm) : chunks p [] = [] := rfl
theorem chunks_cons (p : Prm) (hp : p.Ok) (l : List UInt8) (h : 0 < l.length) : chunks p l = l.take (firstLen p l) :: chunks p (l.drop (firstLen p l)) := by
  cases l with
  | nil => simp at h
  | cons c t =>
    have hpos := firstLen_pos p (c :: t) hp (by simp)
    unfold chunks
    rw [List.length_cons, cuts, if_neg (by simp), cuts_more p hp t.length _ (by rw [List.length_drop, List.length_cons]; omega)]

theorem mask_nat (x : BitVec 32) (b : Nat) (hb : b ≤ 20) : (x &&& BitVec.ofNat 32 (2 ^ b - 1)).toNat = x.toNat % 2 ^ b := by
  have h1 : 2 ^ b < 2 ^ 32 := Nat.pow_lt_pow_right (by decide) (by omega)
  rw [BitVec.toNat_and, BitVec.toNat_ofNat, Nat.mod_eq_of_lt (by omega), Nat.and_two_pow_sub_one_eq_mod]

end Go.Proofs.Ytceiahjhfbghpaa
