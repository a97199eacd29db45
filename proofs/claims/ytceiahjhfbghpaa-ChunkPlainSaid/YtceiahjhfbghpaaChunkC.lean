/- The contracts of bytes.Clone, chunk.All and its iterator. -/
import Derived.Test.YtceiahjhfbghpaaChunkB
import Derived.Test.YtceiahjhfbghpaaApp
import Derived.Test.YtceiahjhfbghpaaRange
import Derived.Lib.SliceRun
import Derived.RangeFuncNested
import Derived.RangeFuncBound
import Derived.RangeFuncCalls
import Derived.RangeFuncLeaves
import Derived.Shelf.Abstract
import Derived.Shelf.RegionOpen
import Derived.WalkKit
import Derived.OwnWalkIn
import Derived.TacticsInMore
import Derived.LoopNIn
import Derived.LoopIn
namespace Go.Proofs.Ytceiahjhfbghpaa
open Go.RowKit Go.My

theorem u8_info : (Try.prog.info? 5).map (fun i => (i.zero, i.size, i.bytes)) = some (some (.int .u8 0), 1, 1) := by kernel_rfl

theorem eq_nil_bytes (w : World) (a : Option Addr) (n c : Nat) : (binOp .eql 25 (.slice a n c) (.slice none 0 0)).run Try.prog w = .ok (.bool a.isNone) w := Go.Lib.run_eql_slice_nil w _ _ a n c 0 0 Try.underlying25
attribute [local go_sem] eq_nil_bytes Oper.semAt_some

set_option maxRecDepth 100000 in
set_option maxHeartbeats 2000000 in
theorem clone_any (l : List UInt8) (a : Addr) (m cap : Nat) (w : World) (hv : IsBytes w l (.slice (some a) m cap)) (hb : l.length ≤ 1099511627776) :
    Calls Try.prog 27 #[.slice (some a) m cap] w fun e w' => ∃ v', e = .returned v' ∧ OwnB w' 5 w.heap.size l v' ∧ Ext No w w' := by
  have hm := hv.len
  have HV := Lib.hid hv; have HB := Lib.hid hb; have HM := Lib.hid hm; clear hv hb hm
  go_enter Try.func27, Try.ntmps27
  have hx0 : Ext No w (w.alloc (.cells #[] 5)) := (Ext.refl No w).alloc _
  have hv1 : IsRow (w.alloc (.cells #[] 5)) (byt l) m (.slice (some a) m cap) := by have h := HV.out.ext0 hx0; unfold IsBytes at h; rw [← HM.out] at h; exact h
  have H63 := Lib.hid (show 0 + m ≤ 9223372036854775807 by have := HM.out; have := HB.out; omega)
  have HBY := Lib.hid (show (0 + m) * 1 ≤ 140737488355328 by have := HM.out; have := HB.out; omega)
  have HX := Lib.hid hx0; have HV1 := Lib.hid hv1; clear hx0 hv1
  go_wp2_with (at_builtin; refine wpList_appN _ rfl _ _ 25 rfl w.heap.size 5 _ _ u8_info Try.underlying25 rfl _ _ _ rfl (World.ownsRow_made w #[] 0 (Nat.le_refl _) (by decide) rfl) _ _ _ (byt l) rfl HV1.out (by simp) (fun _ _ => rfl) H63.out HBY.out (by simp) ?_; intro v' w1 hown hg)
  go_ret
  refine ⟨v', rfl, ?_, HX.out.grown hg (fun k hk hk' => ?_)⟩
  · unfold OwnB
    rw [Nat.zero_add, List.nil_append, HM.out, byts_range] at hown
    exact hown
  · exact absurd hk' (by have : w.heap.size = k := Option.some.inj hk; omega)


theorem size8 (w : World) : (sizeOf 5).run Try.prog w = .ok 1 w := by kernel_rfl
theorem drop8c (b off k len cap : Nat) (hk : k ≤ len) (hc : k < cap) (w : World) : (Instr.sliceAt 25 (.slice (some ⟨b, off, none⟩) len cap) (some (.int .i64 k)) none none).run Try.prog w = .ok (.slice (some ⟨b, off + k, none⟩) (len - k) (cap - k)) w := by
  have h := run_dropS (P := Try.prog) Try.underlying25 size8 (some ⟨b, off, none⟩) .i64 k len cap hk w
  rw [h]
  unfold dropS
  rw [if_neg (by omega)]
  simp [addr_add]
theorem cut8c (b off k n len cap : Nat) (hn : 0 < n) (hc : k + n ≤ cap) (w : World) : (Instr.sliceAt 25 (.slice (some ⟨b, off, none⟩) len cap) (some (.int .i64 k)) (some (.int .i64 ((k : Int) + n))) none).run Try.prog w = .ok (.slice (some ⟨b, off + k, none⟩) n (cap - k)) w := by
  have hel : Try.prog.elem 25 = 5 := by kernel_rfl
  have ht' : Try.prog.underlying 25 = some (.slice (Try.prog.elem 25)) := by rw [hel]; exact Try.underlying25
  rw [run_sliceAt_slice w _ _ _ _ _ ht', run_slice_lh w _ _ len cap ht' .i64 .i64 k (k + n) (by omega) (by omega) (by omega), hel, size8]
  simp [Result.andThen, sliced, addr_add]
  omega

theorem takeD8 (w : World) (l : List UInt8) (b off m cap k n : Nat) (h : IsBytes w l (.slice (some ⟨b, off, none⟩) m cap)) (hk : k + n ≤ m) : IsBytes w ((l.drop k).take n) (.slice (some ⟨b, off + k, none⟩) n (cap - k)) :=
  (h.drop k (by omega)).take n (by omega)

/-- where the k-th chunk begins -/
def offs (p : Prm) (l : List UInt8) (k : Nat) : Nat := ((chunks p l).take k).flatten.length

/-- what the iterator over all chunks reads -/
structure AllIn (W : World) (bb cc cb wb lb tb : Nat) (p : Prm) (l : List UInt8) (v : Value) : Prop where
  bbox : Blk W bb #[v] 25
  cbox : Blk W cc #[.pointer (some ⟨cb, 0, none⟩)] 27
  chk : ∃ st, Chk W cb wb lb tb p st
  row : IsBytes W l v
  apart : ∀ k, v.ownBlock = some k → 0 < l.length → k ≠ wb ∧ k ≠ lb
theorem AllIn.drew {W : World} {bb cc cb wb lb tb : Nat} {p : Prm} {l : List UInt8} {v : Value} (h : AllIn W bb cc cb wb lb tb p l v) : AllIn W.drew bb cc cb wb lb tb p l v :=
  ⟨h.bbox, h.cbox, by obtain ⟨st, hs⟩ := h.chk; exact ⟨st, hs.ext ((Ext.refl No W).drew) (fun x => x) (fun x => x) (fun x => x) (fun x => x)⟩, h.row.ext0 (Ext.refl No W).drew, h.apart⟩
theorem AllIn.ext {W W' : World} {bb cc cb wb lb tb : Nat} {p : Prm} {l : List UInt8} {v : Value} {S : Nat → Prop} (h : AllIn W bb cc cb wb lb tb p l v) (x : Ext S W W')
    (hs : ∀ k, S k → k ≠ bb ∧ k ≠ cc ∧ k ≠ cb ∧ k ≠ wb ∧ k ≠ lb ∧ k ≠ tb) (hv : ∀ k, v.ownBlock = some k → 0 < l.length → ¬ S k) : AllIn W' bb cc cb wb lb tb p l v :=
  ⟨h.bbox.ext x (fun s => (hs _ s).1 rfl), h.cbox.ext x (fun s => (hs _ s).2.1 rfl), by
    obtain ⟨st, h4⟩ := h.chk
    exact ⟨st, h4.ext x (fun s => (hs _ s).2.2.1 rfl) (fun s => (hs _ s).2.2.2.1 rfl) (fun s => (hs _ s).2.2.2.2.1 rfl) (fun s => (hs _ s).2.2.2.2.2 rfl)⟩,
    IsRow.extP h.row x (fun h0 k hk => hv k hk h0), h.apart⟩
theorem AllIn.ext0 {W W' : World} {bb cc cb wb lb tb : Nat} {p : Prm} {l : List UInt8} {v : Value} (h : AllIn W bb cc cb wb lb tb p l v) (x : Ext No W W') : AllIn W' bb cc cb wb lb tb p l v :=
  h.ext x (fun _ s => s.elim) (fun _ _ _ s => s)

/-- First within All -/
theorem first_all (bb cc cb wb lb tb : Nat) (p : Prm) (hp : p.Ok) (l : List UInt8) (b off m cap k : Nat) (W W0 : World) (h : AllIn W bb cc cb wb lb tb p l (.slice (some ⟨b, off, none⟩) m cap)) (hx : Ext (fun k => k = wb ∨ k = lb) W0 W) (hk : k < m) (hm : m ≤ 9223372036854775807) :
    Calls Try.prog 14 #[.pointer (some ⟨cb, 0, none⟩), .slice (some ⟨b, off + k, none⟩) (m - k) (cap - k)] W fun e w' => e = .returned (.int .i64 (firstLen p (l.drop k))) ∧ AllIn w' bb cc cb wb lb tb p l (.slice (some ⟨b, off, none⟩) m cap) ∧ Ext (fun k => k = wb ∨ k = lb) W0 w' := by
  obtain ⟨st, hc⟩ := h.chk
  have hlen := h.row.len
  have hap := h.apart b rfl (by omega)
  refine (first_any cb wb lb tb p hp st (l.drop k) _ W hc (h.row.drop k (by omega)) (by rw [List.length_drop]; omega) (fun j hj _ => ?_)).mono ?_
  · have : b = j := Option.some.inj hj
    subst this; exact hap
  · rintro e w' ⟨st', rfl, hc', hx'⟩
    refine ⟨rfl, ⟨h.bbox.ext hx' ?_, h.cbox.ext hx' ?_, ⟨st', hc'⟩, h.row.ext hx' ?_, h.apart⟩, hx.trans' hx'⟩
    · have h1 := Blk.ne_type h.bbox hc.win.head (by decide); have h2 := Blk.ne_type h.bbox hc.win.row (by decide); omega
    · have h1 := Blk.ne_type h.cbox hc.win.head (by decide); have h2 := Blk.ne_type h.cbox hc.win.row (by decide); omega
    · intro j hj; have : b = j := Option.some.inj hj
      subst this; omega

end Go.Proofs.Ytceiahjhfbghpaa
