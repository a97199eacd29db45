/- The contracts of Same (bytes), Same (rows), Join of the documents' answers. -/
import Derived.Test.YtceiahjhfbghpaaApp
import Derived.Laws.BytesArg
import Derived.Test.YtceiahjhfbghpaaProg
namespace Go.Proofs.Ytceiahjhfbghpaa
open Go.RowKit Go.My

/-- a string of bytes -/
def strB (l : List UInt8) : ByteArray := ⟨l.toArray⟩
theorem strB_data (l : List UInt8) : (strB l).data.toList = l := rfl
theorem strB_inj (l k : List UInt8) : strB l = strB k ↔ l = k := by
  constructor
  · intro h; have := congrArg (fun s => s.data.toList) h; simpa [strB] using this
  · rintro rfl; rfl
theorem strB_list (l : List UInt8) : (strB l).toList = l := ByteArray.toList_eq _
theorem strB_eq (l k : List UInt8) : ((strB l).toList == (strB k).toList) = decide (l = k) := by
  rw [strB_list, strB_list, Bool.eq_iff_iff, beq_iff_eq, decide_eq_true_eq]
theorem conv_bytes (l : List UInt8) (a : Option Addr) (m cap : Nat) (w : World) (h : IsBytes w l (.slice a m cap)) :
    (convert 25 9 (.slice a m cap)).run Try.prog w = .ok (.string (strB l)) w := by
  have hm := h.len
  have hs : Try.prog.underlying 25 = some (.slice 5) := Try.underlying25
  have he : Try.prog.underlying 5 = some (.int .u8) := by kernel_rfl
  have hd : Try.prog.underlying 9 = some .string := by kernel_rfl
  have hstr : strOfNums (l.map fun c => (c.toNat : Int)) = strB l := by
    have : ((strOfNums (l.map fun c => (c.toNat : Int))).data.toList) = l := by
      rw [strOfNums_data, List.map_map]
      conv => rhs; rw [← List.map_id l]
      apply List.map_congr_left
      intro c _
      simp
    have h2 : (strOfNums (l.map fun c => (c.toNat : Int))).data = l.toArray := Array.toList_inj.1 this
    exact congrArg ByteArray.mk h2
  cases a with
  | none =>
    have h0 : l = [] := by
      cases l with
      | nil => rfl
      | cons c t =>
        obtain ⟨b, off, hb, -⟩ := h.get 0 (by rw [hm]; simp)
        cases hb
    subst h0
    exact run_convert_bytes_nil (P := Try.prog) w _ _ hs he m cap _ hd
  | some ad =>
    by_cases hl : l = []
    · subst hl
      simp at hm
      subst hm
      have hl0 : (loadCells ad 0).run Try.prog w = .ok #[] w := run_loadCells_list (P := Try.prog) w ad [] (by simp)
      rw [run_convert_bytes_string w _ _ _ _ 0 cap hs he hd, run_bytesToString w _ 0 cap [] (by simpa using hl0)]
      rfl
    · obtain ⟨b, off, hb, -⟩ := h.get 0 (by rw [hm]; exact List.length_pos_iff.2 hl)
      cases hb
      rw [run_convert_bytes_arg (P := Try.prog) w _ _ hs he b off m cap (l.map fun c => (c.toNat : Int)) (by simp [hm]) ?_ _ hd, hstr]
      intro i hi
      obtain ⟨b', off', hb', hc⟩ := h.get i hi
      cases hb'
      rw [hc]
      have : i < l.length := by omega
      simp [List.getD_eq_getElem?_getD, this]

set_option maxRecDepth 100000 in
set_option maxHeartbeats 400000 in
theorem same1_any (l k : List UInt8) (v u : Value) (w : World) (h : IsBytes w l v) (h' : IsBytes w k u) :
    Calls Try.prog 15 #[v, u] w fun e w' => e = .returned (.bool (decide (l = k))) ∧ w = w' := by
  have hv := h; have hu := h'
  obtain ⟨a, c, rfl, -⟩ := h
  obtain ⟨b, d, rfl, -⟩ := h'
  have h1 := conv_bytes l a _ c w hv
  have h2 := conv_bytes k b _ d w hu
  have h3 := strB_eq l k
  generalize l.length = m at *
  generalize k.length = n at *
  clear hv hu
  generalize decide (l = k) = r at *
  go_enter Try.func15, Try.ntmps15
  go_wp2_with fail
  go_ret
  exact ⟨rfl, rfl⟩

end Go.Proofs.Ytceiahjhfbghpaa
