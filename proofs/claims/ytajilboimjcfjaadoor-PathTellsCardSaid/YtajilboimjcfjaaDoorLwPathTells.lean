/-
  PROVED HERE: 'Rows.PathTellsCardSaid' (the tied card): of every input the law 'coldstorelaw05.PathTells' answers true, and each argument reads behind the call as it read before. No condition but the form's own; the listed tables of the library are tied to the program's text.
-/
import Derived.Test.YtajilboimjcfjaaDoorPZF
import Derived.Test.YtajilboimjcfjaaDoorRows
import Derived.Test.YtajilboimjcfjaaDoorCards
import Derived.Test.YtajilboimjcfjaaDoorTie
import Derived.Lay
import Derived.LaidOnce
import Derived.SevenTiedAt
set_option linter.unusedVariables false
set_option linter.unusedSimpArgs false

section
/- The walk of PathTells. Printed by wip/mkpathtl.py. -/
namespace Go.Proofs.YtajilboimjcfjaaDoor
open Go.RowKit Go.My

theorem i64_and7 (n : Int) : bits .and .i64 n 7 = n % 8 := by
  have h7 : (BitVec.ofInt 64 7).toNat = 2 ^ 3 - 1 := by decide
  have key : (BitVec.ofInt 64 n &&& BitVec.ofInt 64 7).toNat = (n % ((2 ^ 64 : Nat) : Int)).toNat % 2 ^ 3 := by
    rw [BitVec.toNat_and, BitVec.toNat_ofInt, h7, Nat.and_two_pow_sub_one_eq_mod]
  show IntKind.i64.wrap ((BitVec.ofInt 64 n &&& BitVec.ofInt 64 7).toNat : Nat) = n % 8
  rw [key, IntKind.wrap_i64]
  omega
theorem Dr.extN {w w' : World} (h : Ext No w.drew w') : Ext No w w' := (Ext.refl No w).drew.trans' h
def TellsV0 (p q c pp bp J : List UInt8) (rb lb wb : Bool) (ck most : Int) (L : List (List UInt8)) (vb vo N vc r s : Nat) : Nat → Value → World → Prop
  | 0, v, w => v = .string (strB c)
  | 1, v, w => v = .string (strB c)
  | 2, v, w => v = .bool true
  | 3, v, w => v = .bool true
  | 4, v, w => v = .int .i64 0
  | 5, v, w => v = .bool true
  | 6, v, w => v = .bool true
  | 7, v, w => v = .bool true
  | 8, v, w => v = .bool true
  | 9, v, w => v = .bool true
  | 10, v, w => v = .bool true
  | 11, v, w => v = .bool true
  | 12, v, w => v = undef
  | 13, v, w => v = undef
  | 14, v, w => v = .bool true
  | 15, v, w => v = .bool true
  | 16, v, w => v = .bool true
  | 17, v, w => v = .string (strB p)
  | 18, v, w => v = .int .i64 ck
  | 19, v, w => v = .bool rb
  | 20, v, w => v = .string (strB p)
  | 21, v, w => v = .bool rb
  | 22, v, w => v = .bool true
  | 23, v, w => v = .bool true
  | 24, v, w => v = .bool true
  | 25, v, w => v = .string (strB p)
  | 26, v, w => v = .string (strB pp)
  | 27, v, w => v = .string (strB pp)
  | 28, v, w => v = .bool true
  | 29, v, w => v = .bool true
  | 30, v, w => v = .bool true
  | 31, v, w => v = .string (strB p)
  | 32, v, w => v = .string (strB bp)
  | 33, v, w => v = .string (strB bp)
  | 34, v, w => v = .bool true
  | 35, v, w => v = .bool true
  | 36, v, w => v = .bool true
  | 37, v, w => v = .string (strB p)
  | 38, v, w => v = .string (strB q)
  | 39, v, w => v = .string (strB q)
  | 40, v, w => v = .string (strB q)
  | 41, v, w => v = .bool true
  | 42, v, w => v = .bool true
  | 43, v, w => v = .bool true
  | 44, v, w => v = .string (strB p)
  | 45, v, w => v = .string (strB q)
  | 46, v, w => v = .bool lb
  | 47, v, w => v = .string (strB p)
  | 48, v, w => v = .string (strB q)
  | 49, v, w => v = .bool lb
  | 50, v, w => v = .bool true
  | 51, v, w => v = .bool true
  | 52, v, w => v = .bool true
  | 53, v, w => v = .string (strB p)
  | 54, v, w => v = .string (strB q)
  | 55, v, w => v = .bool wb
  | 56, v, w => v = .string (strB p)
  | 57, v, w => v = .string (strB q)
  | 58, v, w => v = .bool wb
  | 59, v, w => v = .bool true
  | 60, v, w => v = .bool true
  | 61, v, w => v = .bool true
  | 62, v, w => v = .string (strB p)
  | 63, v, w => IsStrs w L v
  | 64, v, w => v = .slice (some ⟨vb, vo, none⟩) N vc
  | 65, v, w => v = .bool true
  | 66, v, w => v = .bool true
  | 67, v, w => v = .bool true
  | 68, v, w => v = .string (strB p)
  | 69, v, w => v = .int .i64 most
  | 70, v, w => v = .int .i64 (r : Int)
  | 71, v, w => IsStrs w (L.take s) v
  | 72, v, w => v = .slice (some ⟨vb, vo, none⟩) N vc
  | 73, v, w => v = .int .i64 (s : Int)
  | 74, v, w => v = .slice (some ⟨vb, vo, none⟩) s vc
  | 75, v, w => v = .bool true
  | 76, v, w => v = .bool true
  | _, _, _ => True
theorem TellsV0_ext (p q c pp bp J : List UInt8) (rb lb wb : Bool) (ck most : Int) (L : List (List UInt8)) (vb vo N vc r s : Nat) : ∀ i v w w', TellsV0 p q c pp bp [] rb lb wb ck most L vb vo N vc r s i v w → Ext No w w' → TellsV0 p q c pp bp [] rb lb wb ck most L vb vo N vc r s i v w'
  | 0, _, _, _, h, _ => h
  | 1, _, _, _, h, _ => h
  | 2, _, _, _, h, _ => h
  | 3, _, _, _, h, _ => h
  | 4, _, _, _, h, _ => h
  | 5, _, _, _, h, _ => h
  | 6, _, _, _, h, _ => h
  | 7, _, _, _, h, _ => h
  | 8, _, _, _, h, _ => h
  | 9, _, _, _, h, _ => h
  | 10, _, _, _, h, _ => h
  | 11, _, _, _, h, _ => h
  | 12, _, _, _, h, _ => h
  | 13, _, _, _, h, _ => h
  | 14, _, _, _, h, _ => h
  | 15, _, _, _, h, _ => h
  | 16, _, _, _, h, _ => h
  | 17, _, _, _, h, _ => h
  | 18, _, _, _, h, x => h
  | 19, _, _, _, h, _ => h
  | 20, _, _, _, h, _ => h
  | 21, _, _, _, h, x => h
  | 22, _, _, _, h, _ => h
  | 23, _, _, _, h, _ => h
  | 24, _, _, _, h, _ => h
  | 25, _, _, _, h, _ => h
  | 26, _, _, _, h, x => h
  | 27, _, _, _, h, _ => h
  | 28, _, _, _, h, _ => h
  | 29, _, _, _, h, _ => h
  | 30, _, _, _, h, _ => h
  | 31, _, _, _, h, _ => h
  | 32, _, _, _, h, x => h
  | 33, _, _, _, h, _ => h
  | 34, _, _, _, h, _ => h
  | 35, _, _, _, h, _ => h
  | 36, _, _, _, h, _ => h
  | 37, _, _, _, h, _ => h
  | 38, _, _, _, h, _ => h
  | 39, _, _, _, h, x => h
  | 40, _, _, _, h, _ => h
  | 41, _, _, _, h, _ => h
  | 42, _, _, _, h, _ => h
  | 43, _, _, _, h, _ => h
  | 44, _, _, _, h, _ => h
  | 45, _, _, _, h, _ => h
  | 46, _, _, _, h, x => h
  | 47, _, _, _, h, _ => h
  | 48, _, _, _, h, _ => h
  | 49, _, _, _, h, x => h
  | 50, _, _, _, h, _ => h
  | 51, _, _, _, h, _ => h
  | 52, _, _, _, h, _ => h
  | 53, _, _, _, h, _ => h
  | 54, _, _, _, h, _ => h
  | 55, _, _, _, h, x => h
  | 56, _, _, _, h, _ => h
  | 57, _, _, _, h, _ => h
  | 58, _, _, _, h, x => h
  | 59, _, _, _, h, _ => h
  | 60, _, _, _, h, _ => h
  | 61, _, _, _, h, _ => h
  | 62, _, _, _, h, _ => h
  | 63, _, _, _, h, x => h.ext0 x
  | 64, _, _, _, h, _ => h
  | 65, _, _, _, h, x => h
  | 66, _, _, _, h, _ => h
  | 67, _, _, _, h, _ => h
  | 68, _, _, _, h, _ => h
  | 69, _, _, _, h, _ => h
  | 70, _, _, _, h, _ => h
  | 71, _, _, _, h, x => h.ext0 x
  | 72, _, _, _, h, _ => h
  | 73, _, _, _, h, _ => h
  | 74, _, _, _, h, _ => h
  | 75, _, _, _, h, x => h
  | 76, _, _, _, h, _ => h
  | _ + 77, _, _, _, _, _ => trivial
def TellsV1 (p q c pp bp J : List UInt8) (rb lb wb : Bool) (ck most : Int) (L : List (List UInt8)) (vb vo N vc r s : Nat) : Nat → Value → World → Prop
  | 0, v, w => v = .string (strB c)
  | 1, v, w => v = .string (strB c)
  | 2, v, w => v = .bool true
  | 3, v, w => v = .bool true
  | 4, v, w => v = .int .i64 0
  | 5, v, w => v = .bool true
  | 6, v, w => v = .bool true
  | 7, v, w => v = .bool true
  | 8, v, w => v = .bool true
  | 9, v, w => v = .bool true
  | 10, v, w => v = .bool true
  | 11, v, w => v = .bool true
  | 12, v, w => v = undef
  | 13, v, w => v = undef
  | 14, v, w => v = .bool true
  | 15, v, w => v = .bool true
  | 16, v, w => v = .bool true
  | 17, v, w => v = .string (strB p)
  | 18, v, w => v = .int .i64 ck
  | 19, v, w => v = .bool rb
  | 20, v, w => v = .string (strB p)
  | 21, v, w => v = .bool rb
  | 22, v, w => v = .bool true
  | 23, v, w => v = .bool true
  | 24, v, w => v = .bool true
  | 25, v, w => v = .string (strB p)
  | 26, v, w => v = .string (strB pp)
  | 27, v, w => v = .string (strB pp)
  | 28, v, w => v = .bool true
  | 29, v, w => v = .bool true
  | 30, v, w => v = .bool true
  | 31, v, w => v = .string (strB p)
  | 32, v, w => v = .string (strB bp)
  | 33, v, w => v = .string (strB bp)
  | 34, v, w => v = .bool true
  | 35, v, w => v = .bool true
  | 36, v, w => v = .bool true
  | 37, v, w => v = .string (strB p)
  | 38, v, w => v = .string (strB q)
  | 39, v, w => v = .string (strB J)
  | 40, v, w => v = .string (strB J)
  | 41, v, w => v = .bool true
  | 42, v, w => v = .bool true
  | 43, v, w => v = .bool true
  | 44, v, w => v = .string (strB p)
  | 45, v, w => v = .string (strB q)
  | 46, v, w => v = .bool lb
  | 47, v, w => v = .string (strB p)
  | 48, v, w => v = .string (strB q)
  | 49, v, w => v = .bool lb
  | 50, v, w => v = .bool true
  | 51, v, w => v = .bool true
  | 52, v, w => v = .bool true
  | 53, v, w => v = .string (strB p)
  | 54, v, w => v = .string (strB q)
  | 55, v, w => v = .bool wb
  | 56, v, w => v = .string (strB p)
  | 57, v, w => v = .string (strB q)
  | 58, v, w => v = .bool wb
  | 59, v, w => v = .bool true
  | 60, v, w => v = .bool true
  | 61, v, w => v = .bool true
  | 62, v, w => v = .string (strB p)
  | 63, v, w => IsStrs w L v
  | 64, v, w => v = .slice (some ⟨vb, vo, none⟩) N vc
  | 65, v, w => v = .bool true
  | 66, v, w => v = .bool true
  | 67, v, w => v = .bool true
  | 68, v, w => v = .string (strB p)
  | 69, v, w => v = .int .i64 most
  | 70, v, w => v = .int .i64 (r : Int)
  | 71, v, w => IsStrs w (L.take s) v
  | 72, v, w => v = .slice (some ⟨vb, vo, none⟩) N vc
  | 73, v, w => v = .int .i64 (s : Int)
  | 74, v, w => v = .slice (some ⟨vb, vo, none⟩) s vc
  | 75, v, w => v = .bool true
  | 76, v, w => v = .bool true
  | _, _, _ => True
theorem TellsV1_ext (p q c pp bp J : List UInt8) (rb lb wb : Bool) (ck most : Int) (L : List (List UInt8)) (vb vo N vc r s : Nat) : ∀ i v w w', TellsV1 p q c pp bp J rb lb wb ck most L vb vo N vc r s i v w → Ext No w w' → TellsV1 p q c pp bp J rb lb wb ck most L vb vo N vc r s i v w'
  | 0, _, _, _, h, _ => h
  | 1, _, _, _, h, _ => h
  | 2, _, _, _, h, _ => h
  | 3, _, _, _, h, _ => h
  | 4, _, _, _, h, _ => h
  | 5, _, _, _, h, _ => h
  | 6, _, _, _, h, _ => h
  | 7, _, _, _, h, _ => h
  | 8, _, _, _, h, _ => h
  | 9, _, _, _, h, _ => h
  | 10, _, _, _, h, _ => h
  | 11, _, _, _, h, _ => h
  | 12, _, _, _, h, _ => h
  | 13, _, _, _, h, _ => h
  | 14, _, _, _, h, _ => h
  | 15, _, _, _, h, _ => h
  | 16, _, _, _, h, _ => h
  | 17, _, _, _, h, _ => h
  | 18, _, _, _, h, x => h
  | 19, _, _, _, h, _ => h
  | 20, _, _, _, h, _ => h
  | 21, _, _, _, h, x => h
  | 22, _, _, _, h, _ => h
  | 23, _, _, _, h, _ => h
  | 24, _, _, _, h, _ => h
  | 25, _, _, _, h, _ => h
  | 26, _, _, _, h, x => h
  | 27, _, _, _, h, _ => h
  | 28, _, _, _, h, _ => h
  | 29, _, _, _, h, _ => h
  | 30, _, _, _, h, _ => h
  | 31, _, _, _, h, _ => h
  | 32, _, _, _, h, x => h
  | 33, _, _, _, h, _ => h
  | 34, _, _, _, h, _ => h
  | 35, _, _, _, h, _ => h
  | 36, _, _, _, h, _ => h
  | 37, _, _, _, h, _ => h
  | 38, _, _, _, h, _ => h
  | 39, _, _, _, h, x => h
  | 40, _, _, _, h, _ => h
  | 41, _, _, _, h, _ => h
  | 42, _, _, _, h, _ => h
  | 43, _, _, _, h, _ => h
  | 44, _, _, _, h, _ => h
  | 45, _, _, _, h, _ => h
  | 46, _, _, _, h, x => h
  | 47, _, _, _, h, _ => h
  | 48, _, _, _, h, _ => h
  | 49, _, _, _, h, x => h
  | 50, _, _, _, h, _ => h
  | 51, _, _, _, h, _ => h
  | 52, _, _, _, h, _ => h
  | 53, _, _, _, h, _ => h
  | 54, _, _, _, h, _ => h
  | 55, _, _, _, h, x => h
  | 56, _, _, _, h, _ => h
  | 57, _, _, _, h, _ => h
  | 58, _, _, _, h, x => h
  | 59, _, _, _, h, _ => h
  | 60, _, _, _, h, _ => h
  | 61, _, _, _, h, _ => h
  | 62, _, _, _, h, _ => h
  | 63, _, _, _, h, x => h.ext0 x
  | 64, _, _, _, h, _ => h
  | 65, _, _, _, h, x => h
  | 66, _, _, _, h, _ => h
  | 67, _, _, _, h, _ => h
  | 68, _, _, _, h, _ => h
  | 69, _, _, _, h, _ => h
  | 70, _, _, _, h, _ => h
  | 71, _, _, _, h, x => h.ext0 x
  | 72, _, _, _, h, _ => h
  | 73, _, _, _, h, _ => h
  | 74, _, _, _, h, _ => h
  | 75, _, _, _, h, x => h
  | 76, _, _, _, h, _ => h
  | _ + 77, _, _, _, _, _ => trivial
def TellsV2 (p q c pp bp J : List UInt8) (rb lb wb : Bool) (ck most : Int) (L : List (List UInt8)) (vb vo N vc r s : Nat) : Nat → Value → World → Prop
  | 0, v, w => v = .string ⟨#[]⟩
  | 1, v, w => v = .string ⟨#[]⟩
  | 2, v, w => v = .bool true
  | 3, v, w => v = .bool true
  | 4, v, w => v = .int .i64 38
  | 5, v, w => v = .bool false
  | 6, v, w => v = .bool false
  | 7, v, w => v = .bool true
  | 8, v, w => v = .bool true
  | 9, v, w => v = .bool true
  | 10, v, w => v = .bool false
  | 11, v, w => v = .bool false
  | 12, v, w => v = .int .i64 38
  | 13, v, w => v = .bool true
  | 14, v, w => v = .bool true
  | 15, v, w => v = .bool true
  | 16, v, w => v = .bool true
  | 17, v, w => v = .string (strB p)
  | 18, v, w => v = .int .i64 ck
  | 19, v, w => v = .bool rb
  | 20, v, w => v = .string (strB p)
  | 21, v, w => v = .bool rb
  | 22, v, w => v = .bool true
  | 23, v, w => v = .bool true
  | 24, v, w => v = .bool true
  | 25, v, w => v = .string (strB p)
  | 26, v, w => v = .string (strB pp)
  | 27, v, w => v = .string (strB pp)
  | 28, v, w => v = .bool true
  | 29, v, w => v = .bool true
  | 30, v, w => v = .bool true
  | 31, v, w => v = .string (strB p)
  | 32, v, w => v = .string (strB bp)
  | 33, v, w => v = .string (strB bp)
  | 34, v, w => v = .bool true
  | 35, v, w => v = .bool true
  | 36, v, w => v = .bool true
  | 37, v, w => v = .string (strB p)
  | 38, v, w => v = .string (strB q)
  | 39, v, w => v = .string (strB q)
  | 40, v, w => v = .string (strB q)
  | 41, v, w => v = .bool true
  | 42, v, w => v = .bool true
  | 43, v, w => v = .bool true
  | 44, v, w => v = .string (strB p)
  | 45, v, w => v = .string (strB q)
  | 46, v, w => v = .bool lb
  | 47, v, w => v = .string (strB p)
  | 48, v, w => v = .string (strB q)
  | 49, v, w => v = .bool lb
  | 50, v, w => v = .bool true
  | 51, v, w => v = .bool true
  | 52, v, w => v = .bool true
  | 53, v, w => v = .string (strB p)
  | 54, v, w => v = .string (strB q)
  | 55, v, w => v = .bool wb
  | 56, v, w => v = .string (strB p)
  | 57, v, w => v = .string (strB q)
  | 58, v, w => v = .bool wb
  | 59, v, w => v = .bool true
  | 60, v, w => v = .bool true
  | 61, v, w => v = .bool true
  | 62, v, w => v = .string (strB p)
  | 63, v, w => IsStrs w L v
  | 64, v, w => v = .slice (some ⟨vb, vo, none⟩) N vc
  | 65, v, w => v = .bool true
  | 66, v, w => v = .bool true
  | 67, v, w => v = .bool true
  | 68, v, w => v = .string (strB p)
  | 69, v, w => v = .int .i64 most
  | 70, v, w => v = .int .i64 (r : Int)
  | 71, v, w => IsStrs w (L.take s) v
  | 72, v, w => v = .slice (some ⟨vb, vo, none⟩) N vc
  | 73, v, w => v = .int .i64 (s : Int)
  | 74, v, w => v = .slice (some ⟨vb, vo, none⟩) s vc
  | 75, v, w => v = .bool true
  | 76, v, w => v = .bool true
  | _, _, _ => True
theorem TellsV2_ext (p q c pp bp J : List UInt8) (rb lb wb : Bool) (ck most : Int) (L : List (List UInt8)) (vb vo N vc r s : Nat) : ∀ i v w w', TellsV2 p q [] pp bp [] rb lb wb ck most L vb vo N vc r s i v w → Ext No w w' → TellsV2 p q [] pp bp [] rb lb wb ck most L vb vo N vc r s i v w'
  | 0, _, _, _, h, _ => h
  | 1, _, _, _, h, _ => h
  | 2, _, _, _, h, _ => h
  | 3, _, _, _, h, _ => h
  | 4, _, _, _, h, _ => h
  | 5, _, _, _, h, _ => h
  | 6, _, _, _, h, _ => h
  | 7, _, _, _, h, _ => h
  | 8, _, _, _, h, _ => h
  | 9, _, _, _, h, _ => h
  | 10, _, _, _, h, _ => h
  | 11, _, _, _, h, _ => h
  | 12, _, _, _, h, _ => h
  | 13, _, _, _, h, _ => h
  | 14, _, _, _, h, _ => h
  | 15, _, _, _, h, _ => h
  | 16, _, _, _, h, _ => h
  | 17, _, _, _, h, _ => h
  | 18, _, _, _, h, x => h
  | 19, _, _, _, h, _ => h
  | 20, _, _, _, h, _ => h
  | 21, _, _, _, h, x => h
  | 22, _, _, _, h, _ => h
  | 23, _, _, _, h, _ => h
  | 24, _, _, _, h, _ => h
  | 25, _, _, _, h, _ => h
  | 26, _, _, _, h, x => h
  | 27, _, _, _, h, _ => h
  | 28, _, _, _, h, _ => h
  | 29, _, _, _, h, _ => h
  | 30, _, _, _, h, _ => h
  | 31, _, _, _, h, _ => h
  | 32, _, _, _, h, x => h
  | 33, _, _, _, h, _ => h
  | 34, _, _, _, h, _ => h
  | 35, _, _, _, h, _ => h
  | 36, _, _, _, h, _ => h
  | 37, _, _, _, h, _ => h
  | 38, _, _, _, h, _ => h
  | 39, _, _, _, h, x => h
  | 40, _, _, _, h, _ => h
  | 41, _, _, _, h, _ => h
  | 42, _, _, _, h, _ => h
  | 43, _, _, _, h, _ => h
  | 44, _, _, _, h, _ => h
  | 45, _, _, _, h, _ => h
  | 46, _, _, _, h, x => h
  | 47, _, _, _, h, _ => h
  | 48, _, _, _, h, _ => h
  | 49, _, _, _, h, x => h
  | 50, _, _, _, h, _ => h
  | 51, _, _, _, h, _ => h
  | 52, _, _, _, h, _ => h
  | 53, _, _, _, h, _ => h
  | 54, _, _, _, h, _ => h
  | 55, _, _, _, h, x => h
  | 56, _, _, _, h, _ => h
  | 57, _, _, _, h, _ => h
  | 58, _, _, _, h, x => h
  | 59, _, _, _, h, _ => h
  | 60, _, _, _, h, _ => h
  | 61, _, _, _, h, _ => h
  | 62, _, _, _, h, _ => h
  | 63, _, _, _, h, x => h.ext0 x
  | 64, _, _, _, h, _ => h
  | 65, _, _, _, h, x => h
  | 66, _, _, _, h, _ => h
  | 67, _, _, _, h, _ => h
  | 68, _, _, _, h, _ => h
  | 69, _, _, _, h, _ => h
  | 70, _, _, _, h, _ => h
  | 71, _, _, _, h, x => h.ext0 x
  | 72, _, _, _, h, _ => h
  | 73, _, _, _, h, _ => h
  | 74, _, _, _, h, _ => h
  | 75, _, _, _, h, x => h
  | 76, _, _, _, h, _ => h
  | _ + 77, _, _, _, _, _ => trivial
def TellsV3 (p q c pp bp J : List UInt8) (rb lb wb : Bool) (ck most : Int) (L : List (List UInt8)) (vb vo N vc r s : Nat) : Nat → Value → World → Prop
  | 0, v, w => v = .string ⟨#[]⟩
  | 1, v, w => v = .string ⟨#[]⟩
  | 2, v, w => v = .bool true
  | 3, v, w => v = .bool true
  | 4, v, w => v = .int .i64 38
  | 5, v, w => v = .bool false
  | 6, v, w => v = .bool false
  | 7, v, w => v = .bool true
  | 8, v, w => v = .bool true
  | 9, v, w => v = .bool true
  | 10, v, w => v = .bool false
  | 11, v, w => v = .bool false
  | 12, v, w => v = .int .i64 38
  | 13, v, w => v = .bool true
  | 14, v, w => v = .bool true
  | 15, v, w => v = .bool true
  | 16, v, w => v = .bool true
  | 17, v, w => v = .string (strB p)
  | 18, v, w => v = .int .i64 ck
  | 19, v, w => v = .bool rb
  | 20, v, w => v = .string (strB p)
  | 21, v, w => v = .bool rb
  | 22, v, w => v = .bool true
  | 23, v, w => v = .bool true
  | 24, v, w => v = .bool true
  | 25, v, w => v = .string (strB p)
  | 26, v, w => v = .string (strB pp)
  | 27, v, w => v = .string (strB pp)
  | 28, v, w => v = .bool true
  | 29, v, w => v = .bool true
  | 30, v, w => v = .bool true
  | 31, v, w => v = .string (strB p)
  | 32, v, w => v = .string (strB bp)
  | 33, v, w => v = .string (strB bp)
  | 34, v, w => v = .bool true
  | 35, v, w => v = .bool true
  | 36, v, w => v = .bool true
  | 37, v, w => v = .string (strB p)
  | 38, v, w => v = .string (strB q)
  | 39, v, w => v = .string (strB J)
  | 40, v, w => v = .string (strB J)
  | 41, v, w => v = .bool true
  | 42, v, w => v = .bool true
  | 43, v, w => v = .bool true
  | 44, v, w => v = .string (strB p)
  | 45, v, w => v = .string (strB q)
  | 46, v, w => v = .bool lb
  | 47, v, w => v = .string (strB p)
  | 48, v, w => v = .string (strB q)
  | 49, v, w => v = .bool lb
  | 50, v, w => v = .bool true
  | 51, v, w => v = .bool true
  | 52, v, w => v = .bool true
  | 53, v, w => v = .string (strB p)
  | 54, v, w => v = .string (strB q)
  | 55, v, w => v = .bool wb
  | 56, v, w => v = .string (strB p)
  | 57, v, w => v = .string (strB q)
  | 58, v, w => v = .bool wb
  | 59, v, w => v = .bool true
  | 60, v, w => v = .bool true
  | 61, v, w => v = .bool true
  | 62, v, w => v = .string (strB p)
  | 63, v, w => IsStrs w L v
  | 64, v, w => v = .slice (some ⟨vb, vo, none⟩) N vc
  | 65, v, w => v = .bool true
  | 66, v, w => v = .bool true
  | 67, v, w => v = .bool true
  | 68, v, w => v = .string (strB p)
  | 69, v, w => v = .int .i64 most
  | 70, v, w => v = .int .i64 (r : Int)
  | 71, v, w => IsStrs w (L.take s) v
  | 72, v, w => v = .slice (some ⟨vb, vo, none⟩) N vc
  | 73, v, w => v = .int .i64 (s : Int)
  | 74, v, w => v = .slice (some ⟨vb, vo, none⟩) s vc
  | 75, v, w => v = .bool true
  | 76, v, w => v = .bool true
  | _, _, _ => True
theorem TellsV3_ext (p q c pp bp J : List UInt8) (rb lb wb : Bool) (ck most : Int) (L : List (List UInt8)) (vb vo N vc r s : Nat) : ∀ i v w w', TellsV3 p q [] pp bp J rb lb wb ck most L vb vo N vc r s i v w → Ext No w w' → TellsV3 p q [] pp bp J rb lb wb ck most L vb vo N vc r s i v w'
  | 0, _, _, _, h, _ => h
  | 1, _, _, _, h, _ => h
  | 2, _, _, _, h, _ => h
  | 3, _, _, _, h, _ => h
  | 4, _, _, _, h, _ => h
  | 5, _, _, _, h, _ => h
  | 6, _, _, _, h, _ => h
  | 7, _, _, _, h, _ => h
  | 8, _, _, _, h, _ => h
  | 9, _, _, _, h, _ => h
  | 10, _, _, _, h, _ => h
  | 11, _, _, _, h, _ => h
  | 12, _, _, _, h, _ => h
  | 13, _, _, _, h, _ => h
  | 14, _, _, _, h, _ => h
  | 15, _, _, _, h, _ => h
  | 16, _, _, _, h, _ => h
  | 17, _, _, _, h, _ => h
  | 18, _, _, _, h, x => h
  | 19, _, _, _, h, _ => h
  | 20, _, _, _, h, _ => h
  | 21, _, _, _, h, x => h
  | 22, _, _, _, h, _ => h
  | 23, _, _, _, h, _ => h
  | 24, _, _, _, h, _ => h
  | 25, _, _, _, h, _ => h
  | 26, _, _, _, h, x => h
  | 27, _, _, _, h, _ => h
  | 28, _, _, _, h, _ => h
  | 29, _, _, _, h, _ => h
  | 30, _, _, _, h, _ => h
  | 31, _, _, _, h, _ => h
  | 32, _, _, _, h, x => h
  | 33, _, _, _, h, _ => h
  | 34, _, _, _, h, _ => h
  | 35, _, _, _, h, _ => h
  | 36, _, _, _, h, _ => h
  | 37, _, _, _, h, _ => h
  | 38, _, _, _, h, _ => h
  | 39, _, _, _, h, x => h
  | 40, _, _, _, h, _ => h
  | 41, _, _, _, h, _ => h
  | 42, _, _, _, h, _ => h
  | 43, _, _, _, h, _ => h
  | 44, _, _, _, h, _ => h
  | 45, _, _, _, h, _ => h
  | 46, _, _, _, h, x => h
  | 47, _, _, _, h, _ => h
  | 48, _, _, _, h, _ => h
  | 49, _, _, _, h, x => h
  | 50, _, _, _, h, _ => h
  | 51, _, _, _, h, _ => h
  | 52, _, _, _, h, _ => h
  | 53, _, _, _, h, _ => h
  | 54, _, _, _, h, _ => h
  | 55, _, _, _, h, x => h
  | 56, _, _, _, h, _ => h
  | 57, _, _, _, h, _ => h
  | 58, _, _, _, h, x => h
  | 59, _, _, _, h, _ => h
  | 60, _, _, _, h, _ => h
  | 61, _, _, _, h, _ => h
  | 62, _, _, _, h, _ => h
  | 63, _, _, _, h, x => h.ext0 x
  | 64, _, _, _, h, _ => h
  | 65, _, _, _, h, x => h
  | 66, _, _, _, h, _ => h
  | 67, _, _, _, h, _ => h
  | 68, _, _, _, h, _ => h
  | 69, _, _, _, h, _ => h
  | 70, _, _, _, h, _ => h
  | 71, _, _, _, h, x => h.ext0 x
  | 72, _, _, _, h, _ => h
  | 73, _, _, _, h, _ => h
  | 74, _, _, _, h, _ => h
  | 75, _, _, _, h, x => h
  | 76, _, _, _, h, _ => h
  | _ + 77, _, _, _, _, _ => trivial

set_option maxRecDepth 100000 in
set_option maxHeartbeats 20000000 in
theorem pathTells_fr (p q : List UInt8) (most : Int) (w : World) (lp : p.length ≤ 9223372036854775807) (lq : q.length ≤ 9223372036854775807) (_ : -9223372036854775808 ≤ most) (_ : most ≤ 9223372036854775807) :
    Calls Tryd.prog 3 #[.string (strB p), .string (strB q), .int .i64 most] w fun e w' => e = .returned (.bool true) ∧ Ext No w w' := by
  have zp := strB_size p; have zq := strB_size q
  obtain ⟨np, hnp⟩ : ∃ n, n = p.length := ⟨_, rfl⟩
  obtain ⟨nq, hnq⟩ : ∃ n, n = q.length := ⟨_, rfl⟩
  rw [← hnp] at zp lp; rw [← hnq] at zq lq
  have HNP := Lib.hid hnp; have HNQ := Lib.hid hnq
  clear hnp hnq
  by_cases hs : 300 < np
  · have hsi : (300 : Int) < (np : Int) := by omega
    go_enter Tryd.func3, Tryd.ntmps3
    go_wp2_with fail
    refine (alive_any w).mono ?_
    rintro e w1 ⟨rfl, hE1⟩
    have HE := Lib.hid hE1
    clear hE1
    dsimp only
    go_wp2_with fail
    go_ret
    exact ⟨rfl, HE.out⟩
  have hsi : decide ((300 : Int) < (np : Int)) = false := by simp; omega
  by_cases hs2 : 300 < nq
  · have hsi2 : (300 : Int) < (nq : Int) := by omega
    go_enter Tryd.func3, Tryd.ntmps3
    go_wp2_with fail
    refine (alive_any w).mono ?_
    rintro e w1 ⟨rfl, hE1⟩
    have HE := Lib.hid hE1
    clear hE1
    dsimp only
    go_wp2_with fail
    go_ret
    exact ⟨rfl, HE.out⟩
  have hsi2 : decide ((300 : Int) < (nq : Int)) = false := by simp; omega
  have Lp : p.length ≤ 300 := by have := HNP.out; omega
  have Lq : q.length ≤ 300 := by have := HNQ.out; omega
  have hnp3 : np ≤ 300 := by omega
  have hnq3 : nq ≤ 300 := by omega
  clear hs hs2 lp lq
  have HCK : Hid (∀ W, Calls Tryd.prog 13 #[.string (strB p)] W fun e w' => e = .returned (.int .i64 (checkE p)) ∧ Ext No W w') := Lib.hid fun W => check_all p W (by omega)
  have HCL : Hid (∀ W, Calls Tryd.prog 9 #[.string (strB p)] W fun e w' => e = .returned (cleanT p) ∧ Ext No W w') := Lib.hid fun W => cleanT_any p W (by omega)
  have HRC : Hid (∀ W, Calls Tryd.prog 10 #[.string (strB p)] W fun e w' => e = .returned (rcleanT p) ∧ Ext No W w') := Lib.hid fun W => refClean_any p W (by omega)
  have HRU : Hid (∀ W, Calls Tryd.prog 11 #[.string (strB p)] W fun e w' => e = .returned (.tuple #[.string (strB (parentL p)), .string (strB (baseL p))]) ∧ Ext No W w') := Lib.hid fun W => refCut_any p W (by omega)
  have HRR : Hid (∀ W, Calls Tryd.prog 14 #[.string (strB p)] W fun e w' => e = .returned (.bool (decide (checkE p = 0))) ∧ Ext No W w') := Lib.hid fun W => refRight_any p W (by omega)
  have HPA : Hid (∀ W, Calls Tryd.prog 15 #[.string (strB p)] W fun e w' => e = .returned (.string (strB (parentL p))) ∧ Ext No W w') := Lib.hid fun W => (parent_any p W (by omega)).mono (by rintro e w' ⟨rfl, rfl⟩; exact ⟨rfl, Ext.refl _ _⟩)
  have HBA : Hid (∀ W, Calls Tryd.prog 16 #[.string (strB p)] W fun e w' => e = .returned (.string (strB (baseL p))) ∧ Ext No W w') := Lib.hid fun W => (base_any p W (by omega)).mono (by rintro e w' ⟨rfl, rfl⟩; exact ⟨rfl, Ext.refl _ _⟩)
  have HJO : Hid (∀ W, Calls Tryd.prog 17 #[.string (strB p), .string (strB q)] W fun e w' => e = .returned (.string (strB (joinL p q))) ∧ Ext No W w') := Lib.hid fun W => (join_all p q W (by omega)).mono (by rintro e w' ⟨rfl, rfl⟩; exact ⟨rfl, Ext.refl _ _⟩)
  have HLL : Hid (∀ W, Calls Tryd.prog 18 #[.string (strB p), .string (strB q)] W fun e w' => e = .returned (.bool (lessB p q)) ∧ Ext No W w') := Lib.hid fun W => less_any p q W (by omega) (by omega)
  have HRL : Hid (∀ W, Calls Tryd.prog 19 #[.string (strB p), .string (strB q)] W fun e w' => e = .returned (.bool (lessB p q)) ∧ Ext No W w') := Lib.hid fun W => refLess_any p q W (by omega) (by omega)
  have HWW : Hid (∀ W, Calls Tryd.prog 20 #[.string (strB p), .string (strB q)] W fun e w' => e = .returned (.bool (withinB p q)) ∧ Ext No W w') := Lib.hid fun W => (within_any p q W (by omega) (by omega)).mono (by rintro e w' ⟨rfl, rfl⟩; exact ⟨rfl, Ext.refl _ _⟩)
  have HRW : Hid (∀ W, Calls Tryd.prog 21 #[.string (strB p), .string (strB q)] W fun e w' => e = .returned (.bool (withinB p q)) ∧ Ext No W w') := Lib.hid fun W => (refWithin_any p q W (by omega) (by omega)).mono (by rintro e w' ⟨rfl, rfl⟩; exact ⟨rfl, Ext.refl _ _⟩)
  obtain ⟨N, hN⟩ : ∃ N, N = (partsL p).length := ⟨_, rfl⟩
  have hcn := partsL_count p
  rw [← HNP.out, ← hN] at hcn
  have hN1 : 0 < N := by rw [hN]; exact List.length_pos_iff.2 (partsL_ne p)
  have HN := Lib.hid hN
  have HRP : Hid (∀ W, Calls Tryd.prog 12 #[.string (strB p)] W fun e w' => ∃ b o c, e = .returned (.slice (some ⟨b, o, none⟩) N c) ∧ N ≤ c ∧ c ≤ 9223372036854775807 ∧ IsStrs w' (partsL p) (.slice (some ⟨b, o, none⟩) N c) ∧ Ext No W w') :=
    Lib.hid fun W => (refParts_any p W (by omega)).mono (by
      rintro e w' ⟨v, rfl, ho, hE⟩
      obtain ⟨b, o, c, rfl, h1, h2⟩ := strs_form (strs_own ho) (by rw [← HN.out]; exact hN1)
      rw [← HN.out] at h1 ho ⊢
      exact ⟨b, o, c, rfl, h1, h2, strs_own (by rw [← HN.out]; exact ho), hE⟩)
  clear hN
  have HSS : Hid (∀ (ls : List (List UInt8)) (v u : Value) W, IsStrs W ls v → IsStrs W ls u → Calls Tryd.prog 22 #[v, u] W fun e w' => e = .returned (.bool true) ∧ Ext No W w') :=
    Lib.hid fun ls v u W h h' => (sameStrs_any ls ls v u W h h').mono (by rintro e w' ⟨rfl, hd⟩; rw [decide_eq_true rfl]; exact ⟨rfl, hd.ext No⟩)
  obtain ⟨r, hr, hr7⟩ : ∃ r : Nat, bits BinOp.and IntKind.i64 most 7 = (r : Int) ∧ r ≤ 7 := ⟨(most % 8).toNat, by rw [i64_and7]; omega, by omega⟩
  obtain ⟨s, hs⟩ : ∃ s : Nat, s = min r N := ⟨_, rfl⟩
  have hmin : min (r : Int) (N : Int) = (s : Int) := by omega
  have HSN := Lib.hid (show s ≤ N by omega)
  have hsN : (s : Int) ≤ N := by omega
  have hs300 : s ≤ 7 := by omega
  have HP1 : Hid (∀ W, Calls Tryd.prog 23 #[.string (strB p), .int .i64 1000] W fun e w' => ∃ v, e = .returned v ∧ IsStrs w' (partsL p) v ∧ Ext No W w') :=
    Lib.hid fun W => (partsS_any p 1000 W (by omega)).mono (by
      rintro e w' ⟨v, rfl, ho, hE⟩
      rw [show (partsL p).take (1000 : Int).toNat = partsL p from List.take_of_length_le (by show _ ≤ 1000; rw [← HN.out]; omega)] at ho
      exact ⟨v, rfl, strs_own ho, hE⟩)
  have HP2 : Hid (∀ W, Calls Tryd.prog 23 #[.string (strB p), .int .i64 (r : Int)] W fun e w' => ∃ v, e = .returned v ∧ IsStrs w' ((partsL p).take s) v ∧ Ext No W w') :=
    Lib.hid fun W => (partsS_any p (r : Int) W (by omega)).mono (by
      rintro e w' ⟨v, rfl, ho, hE⟩
      rw [show (partsL p).take (r : Int).toNat = (partsL p).take s by
        rw [show (r : Int).toNat = r from rfl, hs, HN.out, List.take_eq_take_iff]
        omega] at ho
      exact ⟨v, rfl, strs_own ho, hE⟩)
  have hc1 : (∃ c, cleanT p = .tuple #[.string (strB c), .int .i64 0] ∧ rcleanT p = .tuple #[.string (strB c), .bool true]) ∨ (cleanT p = .tuple #[.string ⟨#[]⟩, .int .i64 38] ∧ rcleanT p = .tuple #[.string ⟨#[]⟩, .bool false]) := by
    cases hcl : cleanL p with
    | none => exact .inr ⟨cleanT_none hcl, rclean_none hcl⟩
    | some c => exact .inl ⟨c, cleanT_some hcl, rclean_some hcl⟩
  have hc2 : ((checkE p : Int) == 0) = decide (checkE p = 0) := rfl
  obtain ⟨p1, hp1⟩ : ∃ l, l = p ++ [47] := ⟨_, rfl⟩
  obtain ⟨J, hJ⟩ : ∃ l, l = p1 ++ q := ⟨_, rfl⟩
  have e1 : strB p ++ (⟨#[47]⟩ : ByteArray) = strB p1 := by rw [hp1]; exact strB_append p [47]
  have e2 : strB p1 ++ strB q = strB J := by rw [hJ]; exact strB_append p1 q
  have zp1 := strB_size p1
  have hlp1 : p1.length = np + 1 := by rw [hp1, List.length_append, ← HNP.out]; rfl
  rw [hlp1] at zp1
  have n1 : ¬ 9223372036854775807 < np + 1 := by omega
  have n2 : ¬ 9223372036854775807 < np + 1 + nq := by omega
  have hc3 : (((strB p).toList == []) = true ∧ (strB p).toList.isEmpty = true ∧ joinL p q = q) ∨ (((strB p).toList == []) = false ∧ (strB p).toList.isEmpty = false ∧ joinL p q = J) := by
    by_cases h : p = []
    · exact .inl ⟨by rw [strB_list, h]; rfl, by rw [strB_list, h]; rfl, by unfold joinL; rw [if_pos h]⟩
    · refine .inr ⟨by rw [strB_list]; exact list_beq h, by rw [strB_list]; cases p with | nil => exact absurd rfl h | cons y z => rfl, by unfold joinL; rw [if_neg h, hJ, hp1]; simp⟩
  clear hp1 hJ hlp1 hs hr7 Lp Lq
  generalize partsL p = L at *
  generalize parentL p = pp at *
  generalize baseL p = bp at *
  generalize lessB p q = lb at *
  generalize withinB p q = wb at *
  generalize decide (checkE p = 0) = rb at *
  generalize checkE p = ck at *
  rcases hc1 with ⟨c, hc1, hc1'⟩ | ⟨hc1, hc1'⟩
  · rw [hc1] at HCL; rw [hc1'] at HRC
    rcases hc3 with ⟨hc3, hc3', hc3''⟩ | ⟨hc3, hc3', hc3''⟩
    · rw [hc3''] at HJO
      go_enter Tryd.func3, Tryd.ntmps3
      go_wp2_with fail
      refine (alive_any w).mono ?_
      rintro e w1 ⟨rfl, hE1⟩
      have HE := Lib.hid hE1
      clear hE1
      dsimp only
      go_wp2_with (first | (go_at_call 9; refine (HCL.out _).mono ?_; rintro e w' ⟨rfl, hE'⟩; replace HE := Lib.hid (HE.out.trans' hE'); clear hE') | (go_at_call 10; refine (HRC.out _).mono ?_; rintro e w' ⟨rfl, hE'⟩; replace HE := Lib.hid (HE.out.trans' hE'); clear hE') | (go_at_call 11; refine (HRU.out _).mono ?_; rintro e w' ⟨rfl, hE'⟩; replace HE := Lib.hid (HE.out.trans' hE'); clear hE') | (go_at_call 12; refine (HRP.out _).mono ?_; rintro e w' ⟨vb, vo, vc, rfl, hvc, hvc2, hv, hE'⟩; replace HE := Lib.hid (HE.out.trans' hE'); have HV := Lib.hid hv; clear hE' hv))
      have hsc : (s : Int) ≤ vc := by omega
      have HVT := Lib.hid (strs_take HV.out HSN.out)
      refine wp_region_headG 77 (fun i => !([12, 13] : List Nat).contains i) No (TellsV0 p q c pp bp [] rb lb wb ck most L vb vo N vc r s) (by kernel_rfl) (by kernel_rfl) (by kernel_rfl) (TellsV0_ext p q c pp bp [] rb lb wb ck most L vb vo N vc r s) (HeadStepsG.cons (by rfl) (by exact trivial) ?_ (HeadStepsG.cons (by rfl) (by exact trivial) ?_ (HeadStepsG.cons (by rfl) (by exact trivial) ?_ (HeadStepsG.cons (by rfl) (by exact trivial) ?_ (HeadStepsG.cons (by rfl) (by exact fun _ _ h => h) ?_ (HeadStepsG.cons (by rfl) (by exact fun _ _ h => h) ?_ (HeadStepsG.cons (by rfl) (by exact fun _ _ h => h) ?_ (HeadStepsG.cons (by rfl) (by exact fun _ _ h => h) ?_ (HeadStepsG.cons (by rfl) (by exact trivial) ?_ (HeadStepsG.cons (by rfl) (by exact trivial) ?_ (HeadStepsG.cons (by rfl) (by exact fun _ _ h => h) ?_ (HeadStepsG.cons (by rfl) (by exact fun _ _ h => h) ?_ (HeadStepsG.skip (by rfl) (by exact fun _ _ h => h) (by exact fun _ => rfl) (HeadStepsG.skip (by rfl) (by exact fun _ _ h => h) (by exact fun _ => rfl) (HeadStepsG.cons (by rfl) (by exact fun _ _ h => h) ?_ (HeadStepsG.cons (by rfl) (by exact trivial) ?_ (HeadStepsG.cons (by rfl) (by exact trivial) ?_ (HeadStepsG.cons (by rfl) (by exact fun _ _ h => h) ?_ (HeadStepsG.cons (by rfl) (by exact fun _ _ h => h) ?_ (HeadStepsG.cons (by rfl) (by exact fun _ _ h => h) ?_ (HeadStepsG.cons (by rfl) (by exact fun _ _ h => h) ?_ (HeadStepsG.cons (by rfl) (by exact fun _ _ h => h) ?_ (HeadStepsG.cons (by rfl) (by exact fun _ _ h => h) ?_ (HeadStepsG.cons (by rfl) (by exact trivial) ?_ (HeadStepsG.cons (by rfl) (by exact trivial) ?_ (HeadStepsG.cons (by rfl) (by exact fun _ _ h => h) ?_ (HeadStepsG.cons (by rfl) (by exact fun _ _ h => h) ?_ (HeadStepsG.cons (by rfl) (by exact fun _ _ h => h) ?_ (HeadStepsG.cons (by rfl) (by exact fun _ _ h => h) ?_ (HeadStepsG.cons (by rfl) (by exact trivial) ?_ (HeadStepsG.cons (by rfl) (by exact trivial) ?_ (HeadStepsG.cons (by rfl) (by exact fun _ _ h => h) ?_ (HeadStepsG.cons (by rfl) (by exact fun _ _ h => h) ?_ (HeadStepsG.cons (by rfl) (by exact fun _ _ h => h) ?_ (HeadStepsG.cons (by rfl) (by exact fun _ _ h => h) ?_ (HeadStepsG.cons (by rfl) (by exact trivial) ?_ (HeadStepsG.cons (by rfl) (by exact trivial) ?_ (HeadStepsG.cons (by rfl) (by exact fun _ _ h => h) ?_ (HeadStepsG.cons (by rfl) (by exact fun _ _ h => h) ?_ (HeadStepsG.cons (by rfl) (by exact fun _ _ h => h) ?_ (HeadStepsG.cons (by rfl) (by exact fun _ _ h => h) ?_ (HeadStepsG.cons (by rfl) (by exact fun _ _ h => h) ?_ (HeadStepsG.cons (by rfl) (by exact trivial) ?_ (HeadStepsG.cons (by rfl) (by exact trivial) ?_ (HeadStepsG.cons (by rfl) (by exact fun _ _ h => h) ?_ (HeadStepsG.cons (by rfl) (by exact fun _ _ h => h) ?_ (HeadStepsG.cons (by rfl) (by exact fun _ _ h => h) ?_ (HeadStepsG.cons (by rfl) (by exact fun _ _ h => h) ?_ (HeadStepsG.cons (by rfl) (by exact fun _ _ h => h) ?_ (HeadStepsG.cons (by rfl) (by exact fun _ _ h => h) ?_ (HeadStepsG.cons (by rfl) (by exact fun _ _ h => h) ?_ (HeadStepsG.cons (by rfl) (by exact trivial) ?_ (HeadStepsG.cons (by rfl) (by exact trivial) ?_ (HeadStepsG.cons (by rfl) (by exact fun _ _ h => h) ?_ (HeadStepsG.cons (by rfl) (by exact fun _ _ h => h) ?_ (HeadStepsG.cons (by rfl) (by exact fun _ _ h => h) ?_ (HeadStepsG.cons (by rfl) (by exact fun _ _ h => h) ?_ (HeadStepsG.cons (by rfl) (by exact fun _ _ h => h) ?_ (HeadStepsG.cons (by rfl) (by exact fun _ _ h => h) ?_ (HeadStepsG.cons (by rfl) (by exact fun _ _ h => h) ?_ (HeadStepsG.cons (by rfl) (by exact trivial) ?_ (HeadStepsG.cons (by rfl) (by exact trivial) ?_ (HeadStepsG.cons (by rfl) (by exact fun _ _ h => h) ?_ (HeadStepsG.cons (by rfl) (by exact fun _ _ h => h) ?_ (HeadStepsG.cons (by rfl) (by exact fun _ _ h => h) ?_ (HeadStepsG.cons (by rfl) (by exact fun _ _ h => h) ?_ (HeadStepsG.cons (by rfl) (by exact trivial) ?_ (HeadStepsG.cons (by rfl) (by exact trivial) ?_ (HeadStepsG.cons (by rfl) (by exact fun _ _ h => h) ?_ (HeadStepsG.cons (by rfl) (by exact fun _ _ h => h) ?_ (HeadStepsG.cons (by rfl) (by exact fun _ _ h => h) ?_ (HeadStepsG.cons (by rfl) (by exact fun _ _ h => h) ?_ (HeadStepsG.cons (by rfl) (by exact fun _ _ h => h) ?_ (HeadStepsG.cons (by rfl) (by exact fun _ _ h => h) ?_ (HeadStepsG.cons (by rfl) (by exact fun _ _ h => h) ?_ (HeadStepsG.cons (by rfl) (by exact fun _ _ h => h) ?_ (HeadStepsG.cons (by rfl) (by exact trivial) ?_ HeadStepsG.nil))))))))))))))))))))))))))))))))))))))))))))))))))))))))))))))))))))))))))))) ?_
      · -- slot 55
        intro ac wk hx hsame hdep K hK
        have d7 : ac.tmps.getD 7 undef = .string (strB c) := hsame 7 (by kernel_rfl)
        have e7 := d7
        rw [Array.getD_eq_getD_getElem?] at e7
        clear hsame hdep
        go_simp
        exact hK _ _ (Ext.refl _ wk) rfl
      · -- slot 56
        intro ac wk hx hsame hdep K hK
        have d9 : ac.tmps.getD 9 undef = .string (strB c) := hsame 9 (by kernel_rfl)
        have e9 := d9
        rw [Array.getD_eq_getD_getElem?] at e9
        clear hsame hdep
        go_simp
        exact hK _ _ (Ext.refl _ wk) rfl
      · -- slot 57
        intro ac wk hx hsame hdep K hK
        have d55 : ac.tmps.getD 55 undef = .string (strB c) := hdep 0 (by kernel_rfl)
        have e55 := d55
        rw [Array.getD_eq_getD_getElem?] at e55
        have d56 : ac.tmps.getD 56 undef = .string (strB c) := hdep 1 (by kernel_rfl)
        have e56 := d56
        rw [Array.getD_eq_getD_getElem?] at e56
        clear hsame hdep
        go_simp
        exact hK _ _ (Ext.refl _ wk) rfl
      · -- slot 58
        intro ac wk hx hsame hdep K hK
        have d57 : ac.tmps.getD 57 undef = .bool true := hdep 2 (by kernel_rfl)
        have e57 := d57
        rw [Array.getD_eq_getD_getElem?] at e57
        clear hsame hdep
        go_simp
        exact hK _ _ (Ext.refl _ wk) rfl
      · -- slot 59
        intro ac wk hx hsame hdep K hK
        have d8 : ac.tmps.getD 8 undef = .int .i64 0 := hsame 8 (by kernel_rfl)
        have e8 := d8
        rw [Array.getD_eq_getD_getElem?] at e8
        clear hsame hdep
        go_simp
        exact hK _ _ (Ext.refl _ wk) rfl
      · -- slot 60
        intro ac wk hx hsame hdep K hK
        have d59 : ac.tmps.getD 59 undef = .int .i64 0 := hdep 4 (by kernel_rfl)
        have e59 := d59
        rw [Array.getD_eq_getD_getElem?] at e59
        clear hsame hdep
        go_simp
        exact hK _ _ (Ext.refl _ wk) rfl
      · -- slot 61
        intro ac wk hx hsame hdep K hK
        have d10 : ac.tmps.getD 10 undef = .bool true := hsame 10 (by kernel_rfl)
        have e10 := d10
        rw [Array.getD_eq_getD_getElem?] at e10
        clear hsame hdep
        go_simp
        exact hK _ _ (Ext.refl _ wk) rfl
      · -- slot 62
        intro ac wk hx hsame hdep K hK
        have d60 : ac.tmps.getD 60 undef = .bool true := hdep 5 (by kernel_rfl)
        have e60 := d60
        rw [Array.getD_eq_getD_getElem?] at e60
        have d61 : ac.tmps.getD 61 undef = .bool true := hdep 6 (by kernel_rfl)
        have e61 := d61
        rw [Array.getD_eq_getD_getElem?] at e61
        clear hsame hdep
        go_simp
        exact hK _ _ (Ext.refl _ wk) rfl
      · -- slot 63
        intro ac wk hx hsame hdep K hK
        have d58 : ac.tmps.getD 58 undef = .bool true := hdep 3 (by kernel_rfl)
        have e58 := d58
        rw [Array.getD_eq_getD_getElem?] at e58
        have d62 : ac.tmps.getD 62 undef = .bool true := hdep 7 (by kernel_rfl)
        have e62 := d62
        rw [Array.getD_eq_getD_getElem?] at e62
        clear hsame hdep
        go_simp
        exact hK _ _ (Ext.refl _ wk) rfl
      · -- slot 64
        intro ac wk hx hsame hdep K hK
        have d63 : ac.tmps.getD 63 undef = .bool true := hdep 8 (by kernel_rfl)
        have e63 := d63
        rw [Array.getD_eq_getD_getElem?] at e63
        clear hsame hdep
        go_simp
        exact hK _ _ (Ext.refl _ wk) rfl
      · -- slot 65
        intro ac wk hx hsame hdep K hK
        have d10 : ac.tmps.getD 10 undef = .bool true := hsame 10 (by kernel_rfl)
        have e10 := d10
        rw [Array.getD_eq_getD_getElem?] at e10
        clear hsame hdep
        go_simp
        exact hK _ _ (Ext.refl _ wk) rfl
      · -- slot 66
        intro ac wk hx hsame hdep K hK
        have d65 : ac.tmps.getD 65 undef = .bool true := hdep 10 (by kernel_rfl)
        have e65 := d65
        rw [Array.getD_eq_getD_getElem?] at e65
        clear hsame hdep
        go_simp
        exact hK _ _ (Ext.refl _ wk) rfl
      · -- slot 69
        intro ac wk hx hsame hdep K hK
        have d66 : ac.tmps.getD 66 undef = .bool true := hdep 11 (by kernel_rfl)
        have e66 := d66
        rw [Array.getD_eq_getD_getElem?] at e66
        have d68 : ac.tmps.getD 68 undef = undef := hdep 13 (by kernel_rfl)
        have e68 := d68
        rw [Array.getD_eq_getD_getElem?] at e68
        clear hsame hdep
        go_simp
        exact hK _ _ (Ext.refl _ wk) rfl
      · -- slot 70
        intro ac wk hx hsame hdep K hK
        have d64 : ac.tmps.getD 64 undef = .bool true := hdep 9 (by kernel_rfl)
        have e64 := d64
        rw [Array.getD_eq_getD_getElem?] at e64
        have d69 : ac.tmps.getD 69 undef = .bool true := hdep 14 (by kernel_rfl)
        have e69 := d69
        rw [Array.getD_eq_getD_getElem?] at e69
        clear hsame hdep
        go_simp
        exact hK _ _ (Ext.refl _ wk) rfl
      · -- slot 71
        intro ac wk hx hsame hdep K hK
        have d70 : ac.tmps.getD 70 undef = .bool true := hdep 15 (by kernel_rfl)
        have e70 := d70
        rw [Array.getD_eq_getD_getElem?] at e70
        clear hsame hdep
        go_simp
        exact hK _ _ (Ext.refl _ wk) rfl
      · -- slot 72
        intro ac wk hx hsame hdep K hK
        have d0 : ac.tmps.getD 0 undef = .string (strB p) := hsame 0 (by kernel_rfl)
        have e0 := d0
        rw [Array.getD_eq_getD_getElem?] at e0
        clear hsame hdep
        go_simp
        exact hK _ _ (Ext.refl _ wk) rfl
      · -- slot 73
        intro ac wk hx hsame hdep K hK
        have d72 : ac.tmps.getD 72 undef = .string (strB p) := hdep 17 (by kernel_rfl)
        have e72 := d72
        rw [Array.getD_eq_getD_getElem?] at e72
        clear hsame hdep
        go_simp
        refine (HCK.out wk).mono ?_
        rintro e w' ⟨rfl, hx'⟩
        exact hK _ _ hx' rfl
      · -- slot 74
        intro ac wk hx hsame hdep K hK
        have p73 : (ac.tmps.getD 73 undef) = .int .i64 ck := hdep 18 (by kernel_rfl)
        have d73 := p73
        have e73 := d73
        rw [Array.getD_eq_getD_getElem?] at e73
        clear hsame hdep
        go_simp
        exact hK _ _ (Ext.refl _ wk) rfl
      · -- slot 75
        intro ac wk hx hsame hdep K hK
        have d0 : ac.tmps.getD 0 undef = .string (strB p) := hsame 0 (by kernel_rfl)
        have e0 := d0
        rw [Array.getD_eq_getD_getElem?] at e0
        clear hsame hdep
        go_simp
        exact hK _ _ (Ext.refl _ wk) rfl
      · -- slot 76
        intro ac wk hx hsame hdep K hK
        have d75 : ac.tmps.getD 75 undef = .string (strB p) := hdep 20 (by kernel_rfl)
        have e75 := d75
        rw [Array.getD_eq_getD_getElem?] at e75
        clear hsame hdep
        go_simp
        refine (HRR.out wk).mono ?_
        rintro e w' ⟨rfl, hx'⟩
        exact hK _ _ hx' rfl
      · -- slot 77
        intro ac wk hx hsame hdep K hK
        have d74 : ac.tmps.getD 74 undef = .bool rb := hdep 19 (by kernel_rfl)
        have e74 := d74
        rw [Array.getD_eq_getD_getElem?] at e74
        have p76 : (ac.tmps.getD 76 undef) = .bool rb := hdep 21 (by kernel_rfl)
        have d76 := p76
        have e76 := d76
        rw [Array.getD_eq_getD_getElem?] at e76
        clear hsame hdep
        go_simp
        exact hK _ _ (Ext.refl _ wk) rfl
      · -- slot 78
        intro ac wk hx hsame hdep K hK
        have d71 : ac.tmps.getD 71 undef = .bool true := hdep 16 (by kernel_rfl)
        have e71 := d71
        rw [Array.getD_eq_getD_getElem?] at e71
        have d77 : ac.tmps.getD 77 undef = .bool true := hdep 22 (by kernel_rfl)
        have e77 := d77
        rw [Array.getD_eq_getD_getElem?] at e77
        clear hsame hdep
        go_simp
        exact hK _ _ (Ext.refl _ wk) rfl
      · -- slot 79
        intro ac wk hx hsame hdep K hK
        have d78 : ac.tmps.getD 78 undef = .bool true := hdep 23 (by kernel_rfl)
        have e78 := d78
        rw [Array.getD_eq_getD_getElem?] at e78
        clear hsame hdep
        go_simp
        exact hK _ _ (Ext.refl _ wk) rfl
      · -- slot 80
        intro ac wk hx hsame hdep K hK
        have d0 : ac.tmps.getD 0 undef = .string (strB p) := hsame 0 (by kernel_rfl)
        have e0 := d0
        rw [Array.getD_eq_getD_getElem?] at e0
        clear hsame hdep
        go_simp
        exact hK _ _ (Ext.refl _ wk) rfl
      · -- slot 81
        intro ac wk hx hsame hdep K hK
        have d80 : ac.tmps.getD 80 undef = .string (strB p) := hdep 25 (by kernel_rfl)
        have e80 := d80
        rw [Array.getD_eq_getD_getElem?] at e80
        clear hsame hdep
        go_simp
        refine (HPA.out wk).mono ?_
        rintro e w' ⟨rfl, hx'⟩
        exact hK _ _ hx' rfl
      · -- slot 82
        intro ac wk hx hsame hdep K hK
        have d11 : ac.tmps.getD 11 undef = .string (strB pp) := hsame 11 (by kernel_rfl)
        have e11 := d11
        rw [Array.getD_eq_getD_getElem?] at e11
        clear hsame hdep
        go_simp
        exact hK _ _ (Ext.refl _ wk) rfl
      · -- slot 83
        intro ac wk hx hsame hdep K hK
        have p81 : (ac.tmps.getD 81 undef) = .string (strB pp) := hdep 26 (by kernel_rfl)
        have d81 := p81
        have e81 := d81
        rw [Array.getD_eq_getD_getElem?] at e81
        have d82 : ac.tmps.getD 82 undef = .string (strB pp) := hdep 27 (by kernel_rfl)
        have e82 := d82
        rw [Array.getD_eq_getD_getElem?] at e82
        clear hsame hdep
        go_simp
        exact hK _ _ (Ext.refl _ wk) rfl
      · -- slot 84
        intro ac wk hx hsame hdep K hK
        have d79 : ac.tmps.getD 79 undef = .bool true := hdep 24 (by kernel_rfl)
        have e79 := d79
        rw [Array.getD_eq_getD_getElem?] at e79
        have d83 : ac.tmps.getD 83 undef = .bool true := hdep 28 (by kernel_rfl)
        have e83 := d83
        rw [Array.getD_eq_getD_getElem?] at e83
        clear hsame hdep
        go_simp
        exact hK _ _ (Ext.refl _ wk) rfl
      · -- slot 85
        intro ac wk hx hsame hdep K hK
        have d84 : ac.tmps.getD 84 undef = .bool true := hdep 29 (by kernel_rfl)
        have e84 := d84
        rw [Array.getD_eq_getD_getElem?] at e84
        clear hsame hdep
        go_simp
        exact hK _ _ (Ext.refl _ wk) rfl
      · -- slot 86
        intro ac wk hx hsame hdep K hK
        have d0 : ac.tmps.getD 0 undef = .string (strB p) := hsame 0 (by kernel_rfl)
        have e0 := d0
        rw [Array.getD_eq_getD_getElem?] at e0
        clear hsame hdep
        go_simp
        exact hK _ _ (Ext.refl _ wk) rfl
      · -- slot 87
        intro ac wk hx hsame hdep K hK
        have d86 : ac.tmps.getD 86 undef = .string (strB p) := hdep 31 (by kernel_rfl)
        have e86 := d86
        rw [Array.getD_eq_getD_getElem?] at e86
        clear hsame hdep
        go_simp
        refine (HBA.out wk).mono ?_
        rintro e w' ⟨rfl, hx'⟩
        exact hK _ _ hx' rfl
      · -- slot 88
        intro ac wk hx hsame hdep K hK
        have d12 : ac.tmps.getD 12 undef = .string (strB bp) := hsame 12 (by kernel_rfl)
        have e12 := d12
        rw [Array.getD_eq_getD_getElem?] at e12
        clear hsame hdep
        go_simp
        exact hK _ _ (Ext.refl _ wk) rfl
      · -- slot 89
        intro ac wk hx hsame hdep K hK
        have p87 : (ac.tmps.getD 87 undef) = .string (strB bp) := hdep 32 (by kernel_rfl)
        have d87 := p87
        have e87 := d87
        rw [Array.getD_eq_getD_getElem?] at e87
        have d88 : ac.tmps.getD 88 undef = .string (strB bp) := hdep 33 (by kernel_rfl)
        have e88 := d88
        rw [Array.getD_eq_getD_getElem?] at e88
        clear hsame hdep
        go_simp
        exact hK _ _ (Ext.refl _ wk) rfl
      · -- slot 90
        intro ac wk hx hsame hdep K hK
        have d85 : ac.tmps.getD 85 undef = .bool true := hdep 30 (by kernel_rfl)
        have e85 := d85
        rw [Array.getD_eq_getD_getElem?] at e85
        have d89 : ac.tmps.getD 89 undef = .bool true := hdep 34 (by kernel_rfl)
        have e89 := d89
        rw [Array.getD_eq_getD_getElem?] at e89
        clear hsame hdep
        go_simp
        exact hK _ _ (Ext.refl _ wk) rfl
      · -- slot 91
        intro ac wk hx hsame hdep K hK
        have d90 : ac.tmps.getD 90 undef = .bool true := hdep 35 (by kernel_rfl)
        have e90 := d90
        rw [Array.getD_eq_getD_getElem?] at e90
        clear hsame hdep
        go_simp
        exact hK _ _ (Ext.refl _ wk) rfl
      · -- slot 92
        intro ac wk hx hsame hdep K hK
        have d0 : ac.tmps.getD 0 undef = .string (strB p) := hsame 0 (by kernel_rfl)
        have e0 := d0
        rw [Array.getD_eq_getD_getElem?] at e0
        clear hsame hdep
        go_simp
        exact hK _ _ (Ext.refl _ wk) rfl
      · -- slot 93
        intro ac wk hx hsame hdep K hK
        have d1 : ac.tmps.getD 1 undef = .string (strB q) := hsame 1 (by kernel_rfl)
        have e1 := d1
        rw [Array.getD_eq_getD_getElem?] at e1
        clear hsame hdep
        go_simp
        exact hK _ _ (Ext.refl _ wk) rfl
      · -- slot 94
        intro ac wk hx hsame hdep K hK
        have d92 : ac.tmps.getD 92 undef = .string (strB p) := hdep 37 (by kernel_rfl)
        have e92 := d92
        rw [Array.getD_eq_getD_getElem?] at e92
        have d93 : ac.tmps.getD 93 undef = .string (strB q) := hdep 38 (by kernel_rfl)
        have e93 := d93
        rw [Array.getD_eq_getD_getElem?] at e93
        clear hsame hdep
        go_simp
        refine (HJO.out wk).mono ?_
        rintro e w' ⟨rfl, hx'⟩
        exact hK _ _ hx' rfl
      · -- slot 95
        intro ac wk hx hsame hdep K hK
        have d13 : ac.tmps.getD 13 undef = .string (strB q) := hsame 13 (by kernel_rfl)
        have e13 := d13
        rw [Array.getD_eq_getD_getElem?] at e13
        clear hsame hdep
        go_simp
        exact hK _ _ (Ext.refl _ wk) rfl
      · -- slot 96
        intro ac wk hx hsame hdep K hK
        have p94 : (ac.tmps.getD 94 undef) = .string (strB q) := hdep 39 (by kernel_rfl)
        have d94 := p94
        have e94 := d94
        rw [Array.getD_eq_getD_getElem?] at e94
        have d95 : ac.tmps.getD 95 undef = .string (strB q) := hdep 40 (by kernel_rfl)
        have e95 := d95
        rw [Array.getD_eq_getD_getElem?] at e95
        clear hsame hdep
        go_simp
        exact hK _ _ (Ext.refl _ wk) rfl
      · -- slot 97
        intro ac wk hx hsame hdep K hK
        have d91 : ac.tmps.getD 91 undef = .bool true := hdep 36 (by kernel_rfl)
        have e91 := d91
        rw [Array.getD_eq_getD_getElem?] at e91
        have d96 : ac.tmps.getD 96 undef = .bool true := hdep 41 (by kernel_rfl)
        have e96 := d96
        rw [Array.getD_eq_getD_getElem?] at e96
        clear hsame hdep
        go_simp
        exact hK _ _ (Ext.refl _ wk) rfl
      · -- slot 98
        intro ac wk hx hsame hdep K hK
        have d97 : ac.tmps.getD 97 undef = .bool true := hdep 42 (by kernel_rfl)
        have e97 := d97
        rw [Array.getD_eq_getD_getElem?] at e97
        clear hsame hdep
        go_simp
        exact hK _ _ (Ext.refl _ wk) rfl
      · -- slot 99
        intro ac wk hx hsame hdep K hK
        have d0 : ac.tmps.getD 0 undef = .string (strB p) := hsame 0 (by kernel_rfl)
        have e0 := d0
        rw [Array.getD_eq_getD_getElem?] at e0
        clear hsame hdep
        go_simp
        exact hK _ _ (Ext.refl _ wk) rfl
      · -- slot 100
        intro ac wk hx hsame hdep K hK
        have d1 : ac.tmps.getD 1 undef = .string (strB q) := hsame 1 (by kernel_rfl)
        have e1 := d1
        rw [Array.getD_eq_getD_getElem?] at e1
        clear hsame hdep
        go_simp
        exact hK _ _ (Ext.refl _ wk) rfl
      · -- slot 101
        intro ac wk hx hsame hdep K hK
        have d99 : ac.tmps.getD 99 undef = .string (strB p) := hdep 44 (by kernel_rfl)
        have e99 := d99
        rw [Array.getD_eq_getD_getElem?] at e99
        have d100 : ac.tmps.getD 100 undef = .string (strB q) := hdep 45 (by kernel_rfl)
        have e100 := d100
        rw [Array.getD_eq_getD_getElem?] at e100
        clear hsame hdep
        go_simp
        refine (HLL.out wk).mono ?_
        rintro e w' ⟨rfl, hx'⟩
        exact hK _ _ hx' rfl
      · -- slot 102
        intro ac wk hx hsame hdep K hK
        have d0 : ac.tmps.getD 0 undef = .string (strB p) := hsame 0 (by kernel_rfl)
        have e0 := d0
        rw [Array.getD_eq_getD_getElem?] at e0
        clear hsame hdep
        go_simp
        exact hK _ _ (Ext.refl _ wk) rfl
      · -- slot 103
        intro ac wk hx hsame hdep K hK
        have d1 : ac.tmps.getD 1 undef = .string (strB q) := hsame 1 (by kernel_rfl)
        have e1 := d1
        rw [Array.getD_eq_getD_getElem?] at e1
        clear hsame hdep
        go_simp
        exact hK _ _ (Ext.refl _ wk) rfl
      · -- slot 104
        intro ac wk hx hsame hdep K hK
        have d102 : ac.tmps.getD 102 undef = .string (strB p) := hdep 47 (by kernel_rfl)
        have e102 := d102
        rw [Array.getD_eq_getD_getElem?] at e102
        have d103 : ac.tmps.getD 103 undef = .string (strB q) := hdep 48 (by kernel_rfl)
        have e103 := d103
        rw [Array.getD_eq_getD_getElem?] at e103
        clear hsame hdep
        go_simp
        refine (HRL.out wk).mono ?_
        rintro e w' ⟨rfl, hx'⟩
        exact hK _ _ hx' rfl
      · -- slot 105
        intro ac wk hx hsame hdep K hK
        have p101 : (ac.tmps.getD 101 undef) = .bool lb := hdep 46 (by kernel_rfl)
        have d101 := p101
        have e101 := d101
        rw [Array.getD_eq_getD_getElem?] at e101
        have p104 : (ac.tmps.getD 104 undef) = .bool lb := hdep 49 (by kernel_rfl)
        have d104 := p104
        have e104 := d104
        rw [Array.getD_eq_getD_getElem?] at e104
        clear hsame hdep
        go_simp
        exact hK _ _ (Ext.refl _ wk) rfl
      · -- slot 106
        intro ac wk hx hsame hdep K hK
        have d98 : ac.tmps.getD 98 undef = .bool true := hdep 43 (by kernel_rfl)
        have e98 := d98
        rw [Array.getD_eq_getD_getElem?] at e98
        have d105 : ac.tmps.getD 105 undef = .bool true := hdep 50 (by kernel_rfl)
        have e105 := d105
        rw [Array.getD_eq_getD_getElem?] at e105
        clear hsame hdep
        go_simp
        exact hK _ _ (Ext.refl _ wk) rfl
      · -- slot 107
        intro ac wk hx hsame hdep K hK
        have d106 : ac.tmps.getD 106 undef = .bool true := hdep 51 (by kernel_rfl)
        have e106 := d106
        rw [Array.getD_eq_getD_getElem?] at e106
        clear hsame hdep
        go_simp
        exact hK _ _ (Ext.refl _ wk) rfl
      · -- slot 108
        intro ac wk hx hsame hdep K hK
        have d0 : ac.tmps.getD 0 undef = .string (strB p) := hsame 0 (by kernel_rfl)
        have e0 := d0
        rw [Array.getD_eq_getD_getElem?] at e0
        clear hsame hdep
        go_simp
        exact hK _ _ (Ext.refl _ wk) rfl
      · -- slot 109
        intro ac wk hx hsame hdep K hK
        have d1 : ac.tmps.getD 1 undef = .string (strB q) := hsame 1 (by kernel_rfl)
        have e1 := d1
        rw [Array.getD_eq_getD_getElem?] at e1
        clear hsame hdep
        go_simp
        exact hK _ _ (Ext.refl _ wk) rfl
      · -- slot 110
        intro ac wk hx hsame hdep K hK
        have d108 : ac.tmps.getD 108 undef = .string (strB p) := hdep 53 (by kernel_rfl)
        have e108 := d108
        rw [Array.getD_eq_getD_getElem?] at e108
        have d109 : ac.tmps.getD 109 undef = .string (strB q) := hdep 54 (by kernel_rfl)
        have e109 := d109
        rw [Array.getD_eq_getD_getElem?] at e109
        clear hsame hdep
        go_simp
        refine (HWW.out wk).mono ?_
        rintro e w' ⟨rfl, hx'⟩
        exact hK _ _ hx' rfl
      · -- slot 111
        intro ac wk hx hsame hdep K hK
        have d0 : ac.tmps.getD 0 undef = .string (strB p) := hsame 0 (by kernel_rfl)
        have e0 := d0
        rw [Array.getD_eq_getD_getElem?] at e0
        clear hsame hdep
        go_simp
        exact hK _ _ (Ext.refl _ wk) rfl
      · -- slot 112
        intro ac wk hx hsame hdep K hK
        have d1 : ac.tmps.getD 1 undef = .string (strB q) := hsame 1 (by kernel_rfl)
        have e1 := d1
        rw [Array.getD_eq_getD_getElem?] at e1
        clear hsame hdep
        go_simp
        exact hK _ _ (Ext.refl _ wk) rfl
      · -- slot 113
        intro ac wk hx hsame hdep K hK
        have d111 : ac.tmps.getD 111 undef = .string (strB p) := hdep 56 (by kernel_rfl)
        have e111 := d111
        rw [Array.getD_eq_getD_getElem?] at e111
        have d112 : ac.tmps.getD 112 undef = .string (strB q) := hdep 57 (by kernel_rfl)
        have e112 := d112
        rw [Array.getD_eq_getD_getElem?] at e112
        clear hsame hdep
        go_simp
        refine (HRW.out wk).mono ?_
        rintro e w' ⟨rfl, hx'⟩
        exact hK _ _ hx' rfl
      · -- slot 114
        intro ac wk hx hsame hdep K hK
        have p110 : (ac.tmps.getD 110 undef) = .bool wb := hdep 55 (by kernel_rfl)
        have d110 := p110
        have e110 := d110
        rw [Array.getD_eq_getD_getElem?] at e110
        have p113 : (ac.tmps.getD 113 undef) = .bool wb := hdep 58 (by kernel_rfl)
        have d113 := p113
        have e113 := d113
        rw [Array.getD_eq_getD_getElem?] at e113
        clear hsame hdep
        go_simp
        exact hK _ _ (Ext.refl _ wk) rfl
      · -- slot 115
        intro ac wk hx hsame hdep K hK
        have d107 : ac.tmps.getD 107 undef = .bool true := hdep 52 (by kernel_rfl)
        have e107 := d107
        rw [Array.getD_eq_getD_getElem?] at e107
        have d114 : ac.tmps.getD 114 undef = .bool true := hdep 59 (by kernel_rfl)
        have e114 := d114
        rw [Array.getD_eq_getD_getElem?] at e114
        clear hsame hdep
        go_simp
        exact hK _ _ (Ext.refl _ wk) rfl
      · -- slot 116
        intro ac wk hx hsame hdep K hK
        have d115 : ac.tmps.getD 115 undef = .bool true := hdep 60 (by kernel_rfl)
        have e115 := d115
        rw [Array.getD_eq_getD_getElem?] at e115
        clear hsame hdep
        go_simp
        exact hK _ _ (Ext.refl _ wk) rfl
      · -- slot 117
        intro ac wk hx hsame hdep K hK
        have d0 : ac.tmps.getD 0 undef = .string (strB p) := hsame 0 (by kernel_rfl)
        have e0 := d0
        rw [Array.getD_eq_getD_getElem?] at e0
        clear hsame hdep
        go_simp
        exact hK _ _ (Ext.refl _ wk) rfl
      · -- slot 118
        intro ac wk hx hsame hdep K hK
        have d117 : ac.tmps.getD 117 undef = .string (strB p) := hdep 62 (by kernel_rfl)
        have e117 := d117
        rw [Array.getD_eq_getD_getElem?] at e117
        clear hsame hdep
        go_simp
        refine (HP1.out wk).mono ?_
        rintro e w' ⟨v, rfl, hv, hx'⟩
        exact hK _ _ hx' hv
      · -- slot 119
        intro ac wk hx hsame hdep K hK
        have d14 : ac.tmps.getD 14 undef = .slice (some ⟨vb, vo, none⟩) N vc := hsame 14 (by kernel_rfl)
        have e14 := d14
        rw [Array.getD_eq_getD_getElem?] at e14
        clear hsame hdep
        go_simp
        exact hK _ _ (Ext.refl _ wk) rfl
      · -- slot 120
        intro ac wk hx hsame hdep K hK
        have p118 : IsStrs wk L (ac.tmps.getD 118 undef) := hdep 63 (by kernel_rfl)
        obtain ⟨v118, d118, q118⟩ : ∃ u, ac.tmps.getD 118 undef = u ∧ IsStrs wk L u := ⟨_, rfl, p118⟩
        have e118 := d118
        rw [Array.getD_eq_getD_getElem?] at e118
        have d119 : ac.tmps.getD 119 undef = .slice (some ⟨vb, vo, none⟩) N vc := hdep 64 (by kernel_rfl)
        have e119 := d119
        rw [Array.getD_eq_getD_getElem?] at e119
        clear hsame hdep
        go_simp
        refine (HSS.out L _ _ wk q118 (HV.out.ext0 (Dr.extN hx))).mono ?_
        rintro e w' ⟨rfl, hx'⟩
        exact hK _ _ hx' rfl
      · -- slot 121
        intro ac wk hx hsame hdep K hK
        have d116 : ac.tmps.getD 116 undef = .bool true := hdep 61 (by kernel_rfl)
        have e116 := d116
        rw [Array.getD_eq_getD_getElem?] at e116
        have p120 : (ac.tmps.getD 120 undef) = .bool true := hdep 65 (by kernel_rfl)
        have d120 := p120
        have e120 := d120
        rw [Array.getD_eq_getD_getElem?] at e120
        clear hsame hdep
        go_simp
        exact hK _ _ (Ext.refl _ wk) rfl
      · -- slot 122
        intro ac wk hx hsame hdep K hK
        have d121 : ac.tmps.getD 121 undef = .bool true := hdep 66 (by kernel_rfl)
        have e121 := d121
        rw [Array.getD_eq_getD_getElem?] at e121
        clear hsame hdep
        go_simp
        exact hK _ _ (Ext.refl _ wk) rfl
      · -- slot 123
        intro ac wk hx hsame hdep K hK
        have d0 : ac.tmps.getD 0 undef = .string (strB p) := hsame 0 (by kernel_rfl)
        have e0 := d0
        rw [Array.getD_eq_getD_getElem?] at e0
        clear hsame hdep
        go_simp
        exact hK _ _ (Ext.refl _ wk) rfl
      · -- slot 124
        intro ac wk hx hsame hdep K hK
        have d2 : ac.tmps.getD 2 undef = .int .i64 most := hsame 2 (by kernel_rfl)
        have e2 := d2
        rw [Array.getD_eq_getD_getElem?] at e2
        clear hsame hdep
        go_simp
        exact hK _ _ (Ext.refl _ wk) rfl
      · -- slot 125
        intro ac wk hx hsame hdep K hK
        have d124 : ac.tmps.getD 124 undef = .int .i64 most := hdep 69 (by kernel_rfl)
        have e124 := d124
        rw [Array.getD_eq_getD_getElem?] at e124
        clear hsame hdep
        go_simp
        exact hK _ _ (Ext.refl _ wk) rfl
      · -- slot 126
        intro ac wk hx hsame hdep K hK
        have d123 : ac.tmps.getD 123 undef = .string (strB p) := hdep 68 (by kernel_rfl)
        have e123 := d123
        rw [Array.getD_eq_getD_getElem?] at e123
        have d125 : ac.tmps.getD 125 undef = .int .i64 (r : Int) := hdep 70 (by kernel_rfl)
        have e125 := d125
        rw [Array.getD_eq_getD_getElem?] at e125
        clear hsame hdep
        go_simp
        refine (HP2.out wk).mono ?_
        rintro e w' ⟨v, rfl, hv, hx'⟩
        exact hK _ _ hx' hv
      · -- slot 127
        intro ac wk hx hsame hdep K hK
        have d14 : ac.tmps.getD 14 undef = .slice (some ⟨vb, vo, none⟩) N vc := hsame 14 (by kernel_rfl)
        have e14 := d14
        rw [Array.getD_eq_getD_getElem?] at e14
        clear hsame hdep
        go_simp
        exact hK _ _ (Ext.refl _ wk) rfl
      · -- slot 128
        intro ac wk hx hsame hdep K hK
        have d15 : ac.tmps.getD 15 undef = .int .i64 (s : Int) := hsame 15 (by kernel_rfl)
        have e15 := d15
        rw [Array.getD_eq_getD_getElem?] at e15
        clear hsame hdep
        go_simp
        exact hK _ _ (Ext.refl _ wk) rfl
      · -- slot 129
        intro ac wk hx hsame hdep K hK
        have d127 : ac.tmps.getD 127 undef = .slice (some ⟨vb, vo, none⟩) N vc := hdep 72 (by kernel_rfl)
        have e127 := d127
        rw [Array.getD_eq_getD_getElem?] at e127
        have d128 : ac.tmps.getD 128 undef = .int .i64 (s : Int) := hdep 73 (by kernel_rfl)
        have e128 := d128
        rw [Array.getD_eq_getD_getElem?] at e128
        clear hsame hdep
        go_simp
        exact hK _ _ (Ext.refl _ wk) rfl
      · -- slot 130
        intro ac wk hx hsame hdep K hK
        have p126 : IsStrs wk (L.take s) (ac.tmps.getD 126 undef) := hdep 71 (by kernel_rfl)
        obtain ⟨v126, d126, q126⟩ : ∃ u, ac.tmps.getD 126 undef = u ∧ IsStrs wk (L.take s) u := ⟨_, rfl, p126⟩
        have e126 := d126
        rw [Array.getD_eq_getD_getElem?] at e126
        have d129 : ac.tmps.getD 129 undef = .slice (some ⟨vb, vo, none⟩) s vc := hdep 74 (by kernel_rfl)
        have e129 := d129
        rw [Array.getD_eq_getD_getElem?] at e129
        clear hsame hdep
        go_simp
        refine (HSS.out (L.take s) _ _ wk q126 (HVT.out.ext0 (Dr.extN hx))).mono ?_
        rintro e w' ⟨rfl, hx'⟩
        exact hK _ _ hx' rfl
      · -- slot 131
        intro ac wk hx hsame hdep K hK
        have d122 : ac.tmps.getD 122 undef = .bool true := hdep 67 (by kernel_rfl)
        have e122 := d122
        rw [Array.getD_eq_getD_getElem?] at e122
        have p130 : (ac.tmps.getD 130 undef) = .bool true := hdep 75 (by kernel_rfl)
        have d130 := p130
        have e130 := d130
        rw [Array.getD_eq_getD_getElem?] at e130
        clear hsame hdep
        go_simp
        exact hK _ _ (Ext.refl _ wk) rfl
      · intro ac wk hx hdf hsz hsame hvals
        have f0 : ac.tmps.getD 0 undef = .string (strB p) := hsame 0 (by kernel_rfl)
        have f1 : ac.tmps.getD 1 undef = .string (strB q) := hsame 1 (by kernel_rfl)
        have f2 : ac.tmps.getD 2 undef = .int .i64 most := hsame 2 (by kernel_rfl)
        obtain ⟨u3, f3⟩ : ∃ u, ac.tmps.getD 3 undef = u := ⟨_, rfl⟩
        obtain ⟨u4, f4⟩ : ∃ u, ac.tmps.getD 4 undef = u := ⟨_, rfl⟩
        obtain ⟨u5, f5⟩ : ∃ u, ac.tmps.getD 5 undef = u := ⟨_, rfl⟩
        obtain ⟨u6, f6⟩ : ∃ u, ac.tmps.getD 6 undef = u := ⟨_, rfl⟩
        have f7 : ac.tmps.getD 7 undef = .string (strB c) := hsame 7 (by kernel_rfl)
        have f8 : ac.tmps.getD 8 undef = .int .i64 0 := hsame 8 (by kernel_rfl)
        have f9 : ac.tmps.getD 9 undef = .string (strB c) := hsame 9 (by kernel_rfl)
        have f10 : ac.tmps.getD 10 undef = .bool true := hsame 10 (by kernel_rfl)
        have f11 : ac.tmps.getD 11 undef = .string (strB pp) := hsame 11 (by kernel_rfl)
        have f12 : ac.tmps.getD 12 undef = .string (strB bp) := hsame 12 (by kernel_rfl)
        have f13 : ac.tmps.getD 13 undef = .string (strB q) := hsame 13 (by kernel_rfl)
        have f14 : ac.tmps.getD 14 undef = .slice (some ⟨vb, vo, none⟩) N vc := hsame 14 (by kernel_rfl)
        have f15 : ac.tmps.getD 15 undef = .int .i64 (s : Int) := hsame 15 (by kernel_rfl)
        obtain ⟨u16, f16⟩ : ∃ u, ac.tmps.getD 16 undef = u := ⟨_, rfl⟩
        obtain ⟨u17, f17⟩ : ∃ u, ac.tmps.getD 17 undef = u := ⟨_, rfl⟩
        obtain ⟨u18, f18⟩ : ∃ u, ac.tmps.getD 18 undef = u := ⟨_, rfl⟩
        obtain ⟨u19, f19⟩ : ∃ u, ac.tmps.getD 19 undef = u := ⟨_, rfl⟩
        obtain ⟨u20, f20⟩ : ∃ u, ac.tmps.getD 20 undef = u := ⟨_, rfl⟩
        obtain ⟨u21, f21⟩ : ∃ u, ac.tmps.getD 21 undef = u := ⟨_, rfl⟩
        obtain ⟨u22, f22⟩ : ∃ u, ac.tmps.getD 22 undef = u := ⟨_, rfl⟩
        obtain ⟨u23, f23⟩ : ∃ u, ac.tmps.getD 23 undef = u := ⟨_, rfl⟩
        obtain ⟨u24, f24⟩ : ∃ u, ac.tmps.getD 24 undef = u := ⟨_, rfl⟩
        obtain ⟨u25, f25⟩ : ∃ u, ac.tmps.getD 25 undef = u := ⟨_, rfl⟩
        obtain ⟨u26, f26⟩ : ∃ u, ac.tmps.getD 26 undef = u := ⟨_, rfl⟩
        obtain ⟨u27, f27⟩ : ∃ u, ac.tmps.getD 27 undef = u := ⟨_, rfl⟩
        obtain ⟨u28, f28⟩ : ∃ u, ac.tmps.getD 28 undef = u := ⟨_, rfl⟩
        obtain ⟨u29, f29⟩ : ∃ u, ac.tmps.getD 29 undef = u := ⟨_, rfl⟩
        obtain ⟨u30, f30⟩ : ∃ u, ac.tmps.getD 30 undef = u := ⟨_, rfl⟩
        obtain ⟨u31, f31⟩ : ∃ u, ac.tmps.getD 31 undef = u := ⟨_, rfl⟩
        obtain ⟨u32, f32⟩ : ∃ u, ac.tmps.getD 32 undef = u := ⟨_, rfl⟩
        obtain ⟨u33, f33⟩ : ∃ u, ac.tmps.getD 33 undef = u := ⟨_, rfl⟩
        obtain ⟨u34, f34⟩ : ∃ u, ac.tmps.getD 34 undef = u := ⟨_, rfl⟩
        obtain ⟨u35, f35⟩ : ∃ u, ac.tmps.getD 35 undef = u := ⟨_, rfl⟩
        obtain ⟨u36, f36⟩ : ∃ u, ac.tmps.getD 36 undef = u := ⟨_, rfl⟩
        obtain ⟨u37, f37⟩ : ∃ u, ac.tmps.getD 37 undef = u := ⟨_, rfl⟩
        obtain ⟨u38, f38⟩ : ∃ u, ac.tmps.getD 38 undef = u := ⟨_, rfl⟩
        obtain ⟨u39, f39⟩ : ∃ u, ac.tmps.getD 39 undef = u := ⟨_, rfl⟩
        obtain ⟨u40, f40⟩ : ∃ u, ac.tmps.getD 40 undef = u := ⟨_, rfl⟩
        obtain ⟨u41, f41⟩ : ∃ u, ac.tmps.getD 41 undef = u := ⟨_, rfl⟩
        obtain ⟨u42, f42⟩ : ∃ u, ac.tmps.getD 42 undef = u := ⟨_, rfl⟩
        obtain ⟨u43, f43⟩ : ∃ u, ac.tmps.getD 43 undef = u := ⟨_, rfl⟩
        obtain ⟨u44, f44⟩ : ∃ u, ac.tmps.getD 44 undef = u := ⟨_, rfl⟩
        obtain ⟨u45, f45⟩ : ∃ u, ac.tmps.getD 45 undef = u := ⟨_, rfl⟩
        obtain ⟨u46, f46⟩ : ∃ u, ac.tmps.getD 46 undef = u := ⟨_, rfl⟩
        obtain ⟨u47, f47⟩ : ∃ u, ac.tmps.getD 47 undef = u := ⟨_, rfl⟩
        obtain ⟨u48, f48⟩ : ∃ u, ac.tmps.getD 48 undef = u := ⟨_, rfl⟩
        obtain ⟨u49, f49⟩ : ∃ u, ac.tmps.getD 49 undef = u := ⟨_, rfl⟩
        obtain ⟨u50, f50⟩ : ∃ u, ac.tmps.getD 50 undef = u := ⟨_, rfl⟩
        obtain ⟨u51, f51⟩ : ∃ u, ac.tmps.getD 51 undef = u := ⟨_, rfl⟩
        obtain ⟨u52, f52⟩ : ∃ u, ac.tmps.getD 52 undef = u := ⟨_, rfl⟩
        obtain ⟨u53, f53⟩ : ∃ u, ac.tmps.getD 53 undef = u := ⟨_, rfl⟩
        obtain ⟨u54, f54⟩ : ∃ u, ac.tmps.getD 54 undef = u := ⟨_, rfl⟩
        have f55 : ac.tmps.getD 55 undef = .string (strB c) := hvals 0 (by decide)
        have f56 : ac.tmps.getD 56 undef = .string (strB c) := hvals 1 (by decide)
        have f57 : ac.tmps.getD 57 undef = .bool true := hvals 2 (by decide)
        have f58 : ac.tmps.getD 58 undef = .bool true := hvals 3 (by decide)
        have f59 : ac.tmps.getD 59 undef = .int .i64 0 := hvals 4 (by decide)
        have f60 : ac.tmps.getD 60 undef = .bool true := hvals 5 (by decide)
        have f61 : ac.tmps.getD 61 undef = .bool true := hvals 6 (by decide)
        have f62 : ac.tmps.getD 62 undef = .bool true := hvals 7 (by decide)
        have f63 : ac.tmps.getD 63 undef = .bool true := hvals 8 (by decide)
        have f64 : ac.tmps.getD 64 undef = .bool true := hvals 9 (by decide)
        have f65 : ac.tmps.getD 65 undef = .bool true := hvals 10 (by decide)
        have f66 : ac.tmps.getD 66 undef = .bool true := hvals 11 (by decide)
        have f67 : ac.tmps.getD 67 undef = undef := hvals 12 (by decide)
        have f68 : ac.tmps.getD 68 undef = undef := hvals 13 (by decide)
        have f69 : ac.tmps.getD 69 undef = .bool true := hvals 14 (by decide)
        have f70 : ac.tmps.getD 70 undef = .bool true := hvals 15 (by decide)
        have f71 : ac.tmps.getD 71 undef = .bool true := hvals 16 (by decide)
        have f72 : ac.tmps.getD 72 undef = .string (strB p) := hvals 17 (by decide)
        obtain ⟨u73, f73⟩ : ∃ u, ac.tmps.getD 73 undef = u := ⟨_, rfl⟩
        have f74 : ac.tmps.getD 74 undef = .bool rb := hvals 19 (by decide)
        have f75 : ac.tmps.getD 75 undef = .string (strB p) := hvals 20 (by decide)
        obtain ⟨u76, f76⟩ : ∃ u, ac.tmps.getD 76 undef = u := ⟨_, rfl⟩
        have f77 : ac.tmps.getD 77 undef = .bool true := hvals 22 (by decide)
        have f78 : ac.tmps.getD 78 undef = .bool true := hvals 23 (by decide)
        have f79 : ac.tmps.getD 79 undef = .bool true := hvals 24 (by decide)
        have f80 : ac.tmps.getD 80 undef = .string (strB p) := hvals 25 (by decide)
        obtain ⟨u81, f81⟩ : ∃ u, ac.tmps.getD 81 undef = u := ⟨_, rfl⟩
        have f82 : ac.tmps.getD 82 undef = .string (strB pp) := hvals 27 (by decide)
        have f83 : ac.tmps.getD 83 undef = .bool true := hvals 28 (by decide)
        have f84 : ac.tmps.getD 84 undef = .bool true := hvals 29 (by decide)
        have f85 : ac.tmps.getD 85 undef = .bool true := hvals 30 (by decide)
        have f86 : ac.tmps.getD 86 undef = .string (strB p) := hvals 31 (by decide)
        obtain ⟨u87, f87⟩ : ∃ u, ac.tmps.getD 87 undef = u := ⟨_, rfl⟩
        have f88 : ac.tmps.getD 88 undef = .string (strB bp) := hvals 33 (by decide)
        have f89 : ac.tmps.getD 89 undef = .bool true := hvals 34 (by decide)
        have f90 : ac.tmps.getD 90 undef = .bool true := hvals 35 (by decide)
        have f91 : ac.tmps.getD 91 undef = .bool true := hvals 36 (by decide)
        have f92 : ac.tmps.getD 92 undef = .string (strB p) := hvals 37 (by decide)
        have f93 : ac.tmps.getD 93 undef = .string (strB q) := hvals 38 (by decide)
        obtain ⟨u94, f94⟩ : ∃ u, ac.tmps.getD 94 undef = u := ⟨_, rfl⟩
        have f95 : ac.tmps.getD 95 undef = .string (strB q) := hvals 40 (by decide)
        have f96 : ac.tmps.getD 96 undef = .bool true := hvals 41 (by decide)
        have f97 : ac.tmps.getD 97 undef = .bool true := hvals 42 (by decide)
        have f98 : ac.tmps.getD 98 undef = .bool true := hvals 43 (by decide)
        have f99 : ac.tmps.getD 99 undef = .string (strB p) := hvals 44 (by decide)
        have f100 : ac.tmps.getD 100 undef = .string (strB q) := hvals 45 (by decide)
        obtain ⟨u101, f101⟩ : ∃ u, ac.tmps.getD 101 undef = u := ⟨_, rfl⟩
        have f102 : ac.tmps.getD 102 undef = .string (strB p) := hvals 47 (by decide)
        have f103 : ac.tmps.getD 103 undef = .string (strB q) := hvals 48 (by decide)
        obtain ⟨u104, f104⟩ : ∃ u, ac.tmps.getD 104 undef = u := ⟨_, rfl⟩
        have f105 : ac.tmps.getD 105 undef = .bool true := hvals 50 (by decide)
        have f106 : ac.tmps.getD 106 undef = .bool true := hvals 51 (by decide)
        have f107 : ac.tmps.getD 107 undef = .bool true := hvals 52 (by decide)
        have f108 : ac.tmps.getD 108 undef = .string (strB p) := hvals 53 (by decide)
        have f109 : ac.tmps.getD 109 undef = .string (strB q) := hvals 54 (by decide)
        obtain ⟨u110, f110⟩ : ∃ u, ac.tmps.getD 110 undef = u := ⟨_, rfl⟩
        have f111 : ac.tmps.getD 111 undef = .string (strB p) := hvals 56 (by decide)
        have f112 : ac.tmps.getD 112 undef = .string (strB q) := hvals 57 (by decide)
        obtain ⟨u113, f113⟩ : ∃ u, ac.tmps.getD 113 undef = u := ⟨_, rfl⟩
        have f114 : ac.tmps.getD 114 undef = .bool true := hvals 59 (by decide)
        have f115 : ac.tmps.getD 115 undef = .bool true := hvals 60 (by decide)
        have f116 : ac.tmps.getD 116 undef = .bool true := hvals 61 (by decide)
        have f117 : ac.tmps.getD 117 undef = .string (strB p) := hvals 62 (by decide)
        obtain ⟨u118, f118⟩ : ∃ u, ac.tmps.getD 118 undef = u := ⟨_, rfl⟩
        have f119 : ac.tmps.getD 119 undef = .slice (some ⟨vb, vo, none⟩) N vc := hvals 64 (by decide)
        obtain ⟨u120, f120⟩ : ∃ u, ac.tmps.getD 120 undef = u := ⟨_, rfl⟩
        have f121 : ac.tmps.getD 121 undef = .bool true := hvals 66 (by decide)
        have f122 : ac.tmps.getD 122 undef = .bool true := hvals 67 (by decide)
        have f123 : ac.tmps.getD 123 undef = .string (strB p) := hvals 68 (by decide)
        have f124 : ac.tmps.getD 124 undef = .int .i64 most := hvals 69 (by decide)
        have f125 : ac.tmps.getD 125 undef = .int .i64 (r : Int) := hvals 70 (by decide)
        obtain ⟨u126, f126⟩ : ∃ u, ac.tmps.getD 126 undef = u := ⟨_, rfl⟩
        have f127 : ac.tmps.getD 127 undef = .slice (some ⟨vb, vo, none⟩) N vc := hvals 72 (by decide)
        have f128 : ac.tmps.getD 128 undef = .int .i64 (s : Int) := hvals 73 (by decide)
        have f129 : ac.tmps.getD 129 undef = .slice (some ⟨vb, vo, none⟩) s vc := hvals 74 (by decide)
        obtain ⟨u130, f130⟩ : ∃ u, ac.tmps.getD 130 undef = u := ⟨_, rfl⟩
        have f131 : ac.tmps.getD 131 undef = .bool true := hvals 76 (by decide)
        have hlit : ac = ⟨#[.string (strB p), .string (strB q), .int .i64 most, u3, u4, u5, u6, .string (strB c), .int .i64 0, .string (strB c), .bool true, .string (strB pp), .string (strB bp), .string (strB q), .slice (some ⟨vb, vo, none⟩) N vc, .int .i64 (s : Int), u16, u17, u18, u19, u20, u21, u22, u23, u24, u25, u26, u27, u28, u29, u30, u31, u32, u33, u34, u35, u36, u37, u38, u39, u40, u41, u42, u43, u44, u45, u46, u47, u48, u49, u50, u51, u52, u53, u54, .string (strB c), .string (strB c), .bool true, .bool true, .int .i64 0, .bool true, .bool true, .bool true, .bool true, .bool true, .bool true, .bool true, undef, undef, .bool true, .bool true, .bool true, .string (strB p), u73, .bool rb, .string (strB p), u76, .bool true, .bool true, .bool true, .string (strB p), u81, .string (strB pp), .bool true, .bool true, .bool true, .string (strB p), u87, .string (strB bp), .bool true, .bool true, .bool true, .string (strB p), .string (strB q), u94, .string (strB q), .bool true, .bool true, .bool true, .string (strB p), .string (strB q), u101, .string (strB p), .string (strB q), u104, .bool true, .bool true, .bool true, .string (strB p), .string (strB q), u110, .string (strB p), .string (strB q), u113, .bool true, .bool true, .bool true, .string (strB p), u118, .slice (some ⟨vb, vo, none⟩) N vc, u120, .bool true, .bool true, .string (strB p), .int .i64 most, .int .i64 (r : Int), u126, .slice (some ⟨vb, vo, none⟩) N vc, .int .i64 (s : Int), .slice (some ⟨vb, vo, none⟩) s vc, u130, .bool true], []⟩ := by
          refine (act_lit hsz hdf).trans ?_
          rw [show List.range _ = [0, 1, 2, 3, 4, 5, 6, 7, 8, 9, 10, 11, 12, 13, 14, 15, 16, 17, 18, 19, 20, 21, 22, 23, 24, 25, 26, 27, 28, 29, 30, 31, 32, 33, 34, 35, 36, 37, 38, 39, 40, 41, 42, 43, 44, 45, 46, 47, 48, 49, 50, 51, 52, 53, 54, 55, 56, 57, 58, 59, 60, 61, 62, 63, 64, 65, 66, 67, 68, 69, 70, 71, 72, 73, 74, 75, 76, 77, 78, 79, 80, 81, 82, 83, 84, 85, 86, 87, 88, 89, 90, 91, 92, 93, 94, 95, 96, 97, 98, 99, 100, 101, 102, 103, 104, 105, 106, 107, 108, 109, 110, 111, 112, 113, 114, 115, 116, 117, 118, 119, 120, 121, 122, 123, 124, 125, 126, 127, 128, 129, 130, 131] from rfl]
          simp only [List.map_cons, List.map_nil, f0, f1, f2, f3, f4, f5, f6, f7, f8, f9, f10, f11, f12, f13, f14, f15, f16, f17, f18, f19, f20, f21, f22, f23, f24, f25, f26, f27, f28, f29, f30, f31, f32, f33, f34, f35, f36, f37, f38, f39, f40, f41, f42, f43, f44, f45, f46, f47, f48, f49, f50, f51, f52, f53, f54, f55, f56, f57, f58, f59, f60, f61, f62, f63, f64, f65, f66, f67, f68, f69, f70, f71, f72, f73, f74, f75, f76, f77, f78, f79, f80, f81, f82, f83, f84, f85, f86, f87, f88, f89, f90, f91, f92, f93, f94, f95, f96, f97, f98, f99, f100, f101, f102, f103, f104, f105, f106, f107, f108, f109, f110, f111, f112, f113, f114, f115, f116, f117, f118, f119, f120, f121, f122, f123, f124, f125, f126, f127, f128, f129, f130, f131]
        clear hvals hsame hdf hsz f0 f1 f2 f3 f4 f5 f6 f7 f8 f9 f10 f11 f12 f13 f14 f15 f16 f17 f18 f19 f20 f21 f22 f23 f24 f25 f26 f27 f28 f29 f30 f31 f32 f33 f34 f35 f36 f37 f38 f39 f40 f41 f42 f43 f44 f45 f46 f47 f48 f49 f50 f51 f52 f53 f54 f55 f56 f57 f58 f59 f60 f61 f62 f63 f64 f65 f66 f67 f68 f69 f70 f71 f72 f73 f74 f75 f76 f77 f78 f79 f80 f81 f82 f83 f84 f85 f86 f87 f88 f89 f90 f91 f92 f93 f94 f95 f96 f97 f98 f99 f100 f101 f102 f103 f104 f105 f106 f107 f108 f109 f110 f111 f112 f113 f114 f115 f116 f117 f118 f119 f120 f121 f122 f123 f124 f125 f126 f127 f128 f129 f130 f131
        subst hlit
        simp only [List.drop_succ_cons, List.drop_zero]
        go_wp2_with fail
        go_ret
        exact ⟨rfl, HE.out.trans' hx⟩
    · rw [hc3''] at HJO
      go_enter Tryd.func3, Tryd.ntmps3
      go_wp2_with fail
      refine (alive_any w).mono ?_
      rintro e w1 ⟨rfl, hE1⟩
      have HE := Lib.hid hE1
      clear hE1
      dsimp only
      go_wp2_with (first | (go_at_call 9; refine (HCL.out _).mono ?_; rintro e w' ⟨rfl, hE'⟩; replace HE := Lib.hid (HE.out.trans' hE'); clear hE') | (go_at_call 10; refine (HRC.out _).mono ?_; rintro e w' ⟨rfl, hE'⟩; replace HE := Lib.hid (HE.out.trans' hE'); clear hE') | (go_at_call 11; refine (HRU.out _).mono ?_; rintro e w' ⟨rfl, hE'⟩; replace HE := Lib.hid (HE.out.trans' hE'); clear hE') | (go_at_call 12; refine (HRP.out _).mono ?_; rintro e w' ⟨vb, vo, vc, rfl, hvc, hvc2, hv, hE'⟩; replace HE := Lib.hid (HE.out.trans' hE'); have HV := Lib.hid hv; clear hE' hv))
      have hsc : (s : Int) ≤ vc := by omega
      have HVT := Lib.hid (strs_take HV.out HSN.out)
      refine wp_region_headG 77 (fun i => !([12, 13] : List Nat).contains i) No (TellsV1 p q c pp bp J rb lb wb ck most L vb vo N vc r s) (by kernel_rfl) (by kernel_rfl) (by kernel_rfl) (TellsV1_ext p q c pp bp J rb lb wb ck most L vb vo N vc r s) (HeadStepsG.cons (by rfl) (by exact trivial) ?_ (HeadStepsG.cons (by rfl) (by exact trivial) ?_ (HeadStepsG.cons (by rfl) (by exact trivial) ?_ (HeadStepsG.cons (by rfl) (by exact trivial) ?_ (HeadStepsG.cons (by rfl) (by exact fun _ _ h => h) ?_ (HeadStepsG.cons (by rfl) (by exact fun _ _ h => h) ?_ (HeadStepsG.cons (by rfl) (by exact fun _ _ h => h) ?_ (HeadStepsG.cons (by rfl) (by exact fun _ _ h => h) ?_ (HeadStepsG.cons (by rfl) (by exact trivial) ?_ (HeadStepsG.cons (by rfl) (by exact trivial) ?_ (HeadStepsG.cons (by rfl) (by exact fun _ _ h => h) ?_ (HeadStepsG.cons (by rfl) (by exact fun _ _ h => h) ?_ (HeadStepsG.skip (by rfl) (by exact fun _ _ h => h) (by exact fun _ => rfl) (HeadStepsG.skip (by rfl) (by exact fun _ _ h => h) (by exact fun _ => rfl) (HeadStepsG.cons (by rfl) (by exact fun _ _ h => h) ?_ (HeadStepsG.cons (by rfl) (by exact trivial) ?_ (HeadStepsG.cons (by rfl) (by exact trivial) ?_ (HeadStepsG.cons (by rfl) (by exact fun _ _ h => h) ?_ (HeadStepsG.cons (by rfl) (by exact fun _ _ h => h) ?_ (HeadStepsG.cons (by rfl) (by exact fun _ _ h => h) ?_ (HeadStepsG.cons (by rfl) (by exact fun _ _ h => h) ?_ (HeadStepsG.cons (by rfl) (by exact fun _ _ h => h) ?_ (HeadStepsG.cons (by rfl) (by exact fun _ _ h => h) ?_ (HeadStepsG.cons (by rfl) (by exact trivial) ?_ (HeadStepsG.cons (by rfl) (by exact trivial) ?_ (HeadStepsG.cons (by rfl) (by exact fun _ _ h => h) ?_ (HeadStepsG.cons (by rfl) (by exact fun _ _ h => h) ?_ (HeadStepsG.cons (by rfl) (by exact fun _ _ h => h) ?_ (HeadStepsG.cons (by rfl) (by exact fun _ _ h => h) ?_ (HeadStepsG.cons (by rfl) (by exact trivial) ?_ (HeadStepsG.cons (by rfl) (by exact trivial) ?_ (HeadStepsG.cons (by rfl) (by exact fun _ _ h => h) ?_ (HeadStepsG.cons (by rfl) (by exact fun _ _ h => h) ?_ (HeadStepsG.cons (by rfl) (by exact fun _ _ h => h) ?_ (HeadStepsG.cons (by rfl) (by exact fun _ _ h => h) ?_ (HeadStepsG.cons (by rfl) (by exact trivial) ?_ (HeadStepsG.cons (by rfl) (by exact trivial) ?_ (HeadStepsG.cons (by rfl) (by exact fun _ _ h => h) ?_ (HeadStepsG.cons (by rfl) (by exact fun _ _ h => h) ?_ (HeadStepsG.cons (by rfl) (by exact fun _ _ h => h) ?_ (HeadStepsG.cons (by rfl) (by exact fun _ _ h => h) ?_ (HeadStepsG.cons (by rfl) (by exact fun _ _ h => h) ?_ (HeadStepsG.cons (by rfl) (by exact trivial) ?_ (HeadStepsG.cons (by rfl) (by exact trivial) ?_ (HeadStepsG.cons (by rfl) (by exact fun _ _ h => h) ?_ (HeadStepsG.cons (by rfl) (by exact fun _ _ h => h) ?_ (HeadStepsG.cons (by rfl) (by exact fun _ _ h => h) ?_ (HeadStepsG.cons (by rfl) (by exact fun _ _ h => h) ?_ (HeadStepsG.cons (by rfl) (by exact fun _ _ h => h) ?_ (HeadStepsG.cons (by rfl) (by exact fun _ _ h => h) ?_ (HeadStepsG.cons (by rfl) (by exact fun _ _ h => h) ?_ (HeadStepsG.cons (by rfl) (by exact trivial) ?_ (HeadStepsG.cons (by rfl) (by exact trivial) ?_ (HeadStepsG.cons (by rfl) (by exact fun _ _ h => h) ?_ (HeadStepsG.cons (by rfl) (by exact fun _ _ h => h) ?_ (HeadStepsG.cons (by rfl) (by exact fun _ _ h => h) ?_ (HeadStepsG.cons (by rfl) (by exact fun _ _ h => h) ?_ (HeadStepsG.cons (by rfl) (by exact fun _ _ h => h) ?_ (HeadStepsG.cons (by rfl) (by exact fun _ _ h => h) ?_ (HeadStepsG.cons (by rfl) (by exact fun _ _ h => h) ?_ (HeadStepsG.cons (by rfl) (by exact trivial) ?_ (HeadStepsG.cons (by rfl) (by exact trivial) ?_ (HeadStepsG.cons (by rfl) (by exact fun _ _ h => h) ?_ (HeadStepsG.cons (by rfl) (by exact fun _ _ h => h) ?_ (HeadStepsG.cons (by rfl) (by exact fun _ _ h => h) ?_ (HeadStepsG.cons (by rfl) (by exact fun _ _ h => h) ?_ (HeadStepsG.cons (by rfl) (by exact trivial) ?_ (HeadStepsG.cons (by rfl) (by exact trivial) ?_ (HeadStepsG.cons (by rfl) (by exact fun _ _ h => h) ?_ (HeadStepsG.cons (by rfl) (by exact fun _ _ h => h) ?_ (HeadStepsG.cons (by rfl) (by exact fun _ _ h => h) ?_ (HeadStepsG.cons (by rfl) (by exact fun _ _ h => h) ?_ (HeadStepsG.cons (by rfl) (by exact fun _ _ h => h) ?_ (HeadStepsG.cons (by rfl) (by exact fun _ _ h => h) ?_ (HeadStepsG.cons (by rfl) (by exact fun _ _ h => h) ?_ (HeadStepsG.cons (by rfl) (by exact fun _ _ h => h) ?_ (HeadStepsG.cons (by rfl) (by exact trivial) ?_ HeadStepsG.nil))))))))))))))))))))))))))))))))))))))))))))))))))))))))))))))))))))))))))))) ?_
      · -- slot 55
        intro ac wk hx hsame hdep K hK
        have d7 : ac.tmps.getD 7 undef = .string (strB c) := hsame 7 (by kernel_rfl)
        have e7 := d7
        rw [Array.getD_eq_getD_getElem?] at e7
        clear hsame hdep
        go_simp
        exact hK _ _ (Ext.refl _ wk) rfl
      · -- slot 56
        intro ac wk hx hsame hdep K hK
        have d9 : ac.tmps.getD 9 undef = .string (strB c) := hsame 9 (by kernel_rfl)
        have e9 := d9
        rw [Array.getD_eq_getD_getElem?] at e9
        clear hsame hdep
        go_simp
        exact hK _ _ (Ext.refl _ wk) rfl
      · -- slot 57
        intro ac wk hx hsame hdep K hK
        have d55 : ac.tmps.getD 55 undef = .string (strB c) := hdep 0 (by kernel_rfl)
        have e55 := d55
        rw [Array.getD_eq_getD_getElem?] at e55
        have d56 : ac.tmps.getD 56 undef = .string (strB c) := hdep 1 (by kernel_rfl)
        have e56 := d56
        rw [Array.getD_eq_getD_getElem?] at e56
        clear hsame hdep
        go_simp
        exact hK _ _ (Ext.refl _ wk) rfl
      · -- slot 58
        intro ac wk hx hsame hdep K hK
        have d57 : ac.tmps.getD 57 undef = .bool true := hdep 2 (by kernel_rfl)
        have e57 := d57
        rw [Array.getD_eq_getD_getElem?] at e57
        clear hsame hdep
        go_simp
        exact hK _ _ (Ext.refl _ wk) rfl
      · -- slot 59
        intro ac wk hx hsame hdep K hK
        have d8 : ac.tmps.getD 8 undef = .int .i64 0 := hsame 8 (by kernel_rfl)
        have e8 := d8
        rw [Array.getD_eq_getD_getElem?] at e8
        clear hsame hdep
        go_simp
        exact hK _ _ (Ext.refl _ wk) rfl
      · -- slot 60
        intro ac wk hx hsame hdep K hK
        have d59 : ac.tmps.getD 59 undef = .int .i64 0 := hdep 4 (by kernel_rfl)
        have e59 := d59
        rw [Array.getD_eq_getD_getElem?] at e59
        clear hsame hdep
        go_simp
        exact hK _ _ (Ext.refl _ wk) rfl
      · -- slot 61
        intro ac wk hx hsame hdep K hK
        have d10 : ac.tmps.getD 10 undef = .bool true := hsame 10 (by kernel_rfl)
        have e10 := d10
        rw [Array.getD_eq_getD_getElem?] at e10
        clear hsame hdep
        go_simp
        exact hK _ _ (Ext.refl _ wk) rfl
      · -- slot 62
        intro ac wk hx hsame hdep K hK
        have d60 : ac.tmps.getD 60 undef = .bool true := hdep 5 (by kernel_rfl)
        have e60 := d60
        rw [Array.getD_eq_getD_getElem?] at e60
        have d61 : ac.tmps.getD 61 undef = .bool true := hdep 6 (by kernel_rfl)
        have e61 := d61
        rw [Array.getD_eq_getD_getElem?] at e61
        clear hsame hdep
        go_simp
        exact hK _ _ (Ext.refl _ wk) rfl
      · -- slot 63
        intro ac wk hx hsame hdep K hK
        have d58 : ac.tmps.getD 58 undef = .bool true := hdep 3 (by kernel_rfl)
        have e58 := d58
        rw [Array.getD_eq_getD_getElem?] at e58
        have d62 : ac.tmps.getD 62 undef = .bool true := hdep 7 (by kernel_rfl)
        have e62 := d62
        rw [Array.getD_eq_getD_getElem?] at e62
        clear hsame hdep
        go_simp
        exact hK _ _ (Ext.refl _ wk) rfl
      · -- slot 64
        intro ac wk hx hsame hdep K hK
        have d63 : ac.tmps.getD 63 undef = .bool true := hdep 8 (by kernel_rfl)
        have e63 := d63
        rw [Array.getD_eq_getD_getElem?] at e63
        clear hsame hdep
        go_simp
        exact hK _ _ (Ext.refl _ wk) rfl
      · -- slot 65
        intro ac wk hx hsame hdep K hK
        have d10 : ac.tmps.getD 10 undef = .bool true := hsame 10 (by kernel_rfl)
        have e10 := d10
        rw [Array.getD_eq_getD_getElem?] at e10
        clear hsame hdep
        go_simp
        exact hK _ _ (Ext.refl _ wk) rfl
      · -- slot 66
        intro ac wk hx hsame hdep K hK
        have d65 : ac.tmps.getD 65 undef = .bool true := hdep 10 (by kernel_rfl)
        have e65 := d65
        rw [Array.getD_eq_getD_getElem?] at e65
        clear hsame hdep
        go_simp
        exact hK _ _ (Ext.refl _ wk) rfl
      · -- slot 69
        intro ac wk hx hsame hdep K hK
        have d66 : ac.tmps.getD 66 undef = .bool true := hdep 11 (by kernel_rfl)
        have e66 := d66
        rw [Array.getD_eq_getD_getElem?] at e66
        have d68 : ac.tmps.getD 68 undef = undef := hdep 13 (by kernel_rfl)
        have e68 := d68
        rw [Array.getD_eq_getD_getElem?] at e68
        clear hsame hdep
        go_simp
        exact hK _ _ (Ext.refl _ wk) rfl
      · -- slot 70
        intro ac wk hx hsame hdep K hK
        have d64 : ac.tmps.getD 64 undef = .bool true := hdep 9 (by kernel_rfl)
        have e64 := d64
        rw [Array.getD_eq_getD_getElem?] at e64
        have d69 : ac.tmps.getD 69 undef = .bool true := hdep 14 (by kernel_rfl)
        have e69 := d69
        rw [Array.getD_eq_getD_getElem?] at e69
        clear hsame hdep
        go_simp
        exact hK _ _ (Ext.refl _ wk) rfl
      · -- slot 71
        intro ac wk hx hsame hdep K hK
        have d70 : ac.tmps.getD 70 undef = .bool true := hdep 15 (by kernel_rfl)
        have e70 := d70
        rw [Array.getD_eq_getD_getElem?] at e70
        clear hsame hdep
        go_simp
        exact hK _ _ (Ext.refl _ wk) rfl
      · -- slot 72
        intro ac wk hx hsame hdep K hK
        have d0 : ac.tmps.getD 0 undef = .string (strB p) := hsame 0 (by kernel_rfl)
        have e0 := d0
        rw [Array.getD_eq_getD_getElem?] at e0
        clear hsame hdep
        go_simp
        exact hK _ _ (Ext.refl _ wk) rfl
      · -- slot 73
        intro ac wk hx hsame hdep K hK
        have d72 : ac.tmps.getD 72 undef = .string (strB p) := hdep 17 (by kernel_rfl)
        have e72 := d72
        rw [Array.getD_eq_getD_getElem?] at e72
        clear hsame hdep
        go_simp
        refine (HCK.out wk).mono ?_
        rintro e w' ⟨rfl, hx'⟩
        exact hK _ _ hx' rfl
      · -- slot 74
        intro ac wk hx hsame hdep K hK
        have p73 : (ac.tmps.getD 73 undef) = .int .i64 ck := hdep 18 (by kernel_rfl)
        have d73 := p73
        have e73 := d73
        rw [Array.getD_eq_getD_getElem?] at e73
        clear hsame hdep
        go_simp
        exact hK _ _ (Ext.refl _ wk) rfl
      · -- slot 75
        intro ac wk hx hsame hdep K hK
        have d0 : ac.tmps.getD 0 undef = .string (strB p) := hsame 0 (by kernel_rfl)
        have e0 := d0
        rw [Array.getD_eq_getD_getElem?] at e0
        clear hsame hdep
        go_simp
        exact hK _ _ (Ext.refl _ wk) rfl
      · -- slot 76
        intro ac wk hx hsame hdep K hK
        have d75 : ac.tmps.getD 75 undef = .string (strB p) := hdep 20 (by kernel_rfl)
        have e75 := d75
        rw [Array.getD_eq_getD_getElem?] at e75
        clear hsame hdep
        go_simp
        refine (HRR.out wk).mono ?_
        rintro e w' ⟨rfl, hx'⟩
        exact hK _ _ hx' rfl
      · -- slot 77
        intro ac wk hx hsame hdep K hK
        have d74 : ac.tmps.getD 74 undef = .bool rb := hdep 19 (by kernel_rfl)
        have e74 := d74
        rw [Array.getD_eq_getD_getElem?] at e74
        have p76 : (ac.tmps.getD 76 undef) = .bool rb := hdep 21 (by kernel_rfl)
        have d76 := p76
        have e76 := d76
        rw [Array.getD_eq_getD_getElem?] at e76
        clear hsame hdep
        go_simp
        exact hK _ _ (Ext.refl _ wk) rfl
      · -- slot 78
        intro ac wk hx hsame hdep K hK
        have d71 : ac.tmps.getD 71 undef = .bool true := hdep 16 (by kernel_rfl)
        have e71 := d71
        rw [Array.getD_eq_getD_getElem?] at e71
        have d77 : ac.tmps.getD 77 undef = .bool true := hdep 22 (by kernel_rfl)
        have e77 := d77
        rw [Array.getD_eq_getD_getElem?] at e77
        clear hsame hdep
        go_simp
        exact hK _ _ (Ext.refl _ wk) rfl
      · -- slot 79
        intro ac wk hx hsame hdep K hK
        have d78 : ac.tmps.getD 78 undef = .bool true := hdep 23 (by kernel_rfl)
        have e78 := d78
        rw [Array.getD_eq_getD_getElem?] at e78
        clear hsame hdep
        go_simp
        exact hK _ _ (Ext.refl _ wk) rfl
      · -- slot 80
        intro ac wk hx hsame hdep K hK
        have d0 : ac.tmps.getD 0 undef = .string (strB p) := hsame 0 (by kernel_rfl)
        have e0 := d0
        rw [Array.getD_eq_getD_getElem?] at e0
        clear hsame hdep
        go_simp
        exact hK _ _ (Ext.refl _ wk) rfl
      · -- slot 81
        intro ac wk hx hsame hdep K hK
        have d80 : ac.tmps.getD 80 undef = .string (strB p) := hdep 25 (by kernel_rfl)
        have e80 := d80
        rw [Array.getD_eq_getD_getElem?] at e80
        clear hsame hdep
        go_simp
        refine (HPA.out wk).mono ?_
        rintro e w' ⟨rfl, hx'⟩
        exact hK _ _ hx' rfl
      · -- slot 82
        intro ac wk hx hsame hdep K hK
        have d11 : ac.tmps.getD 11 undef = .string (strB pp) := hsame 11 (by kernel_rfl)
        have e11 := d11
        rw [Array.getD_eq_getD_getElem?] at e11
        clear hsame hdep
        go_simp
        exact hK _ _ (Ext.refl _ wk) rfl
      · -- slot 83
        intro ac wk hx hsame hdep K hK
        have p81 : (ac.tmps.getD 81 undef) = .string (strB pp) := hdep 26 (by kernel_rfl)
        have d81 := p81
        have e81 := d81
        rw [Array.getD_eq_getD_getElem?] at e81
        have d82 : ac.tmps.getD 82 undef = .string (strB pp) := hdep 27 (by kernel_rfl)
        have e82 := d82
        rw [Array.getD_eq_getD_getElem?] at e82
        clear hsame hdep
        go_simp
        exact hK _ _ (Ext.refl _ wk) rfl
      · -- slot 84
        intro ac wk hx hsame hdep K hK
        have d79 : ac.tmps.getD 79 undef = .bool true := hdep 24 (by kernel_rfl)
        have e79 := d79
        rw [Array.getD_eq_getD_getElem?] at e79
        have d83 : ac.tmps.getD 83 undef = .bool true := hdep 28 (by kernel_rfl)
        have e83 := d83
        rw [Array.getD_eq_getD_getElem?] at e83
        clear hsame hdep
        go_simp
        exact hK _ _ (Ext.refl _ wk) rfl
      · -- slot 85
        intro ac wk hx hsame hdep K hK
        have d84 : ac.tmps.getD 84 undef = .bool true := hdep 29 (by kernel_rfl)
        have e84 := d84
        rw [Array.getD_eq_getD_getElem?] at e84
        clear hsame hdep
        go_simp
        exact hK _ _ (Ext.refl _ wk) rfl
      · -- slot 86
        intro ac wk hx hsame hdep K hK
        have d0 : ac.tmps.getD 0 undef = .string (strB p) := hsame 0 (by kernel_rfl)
        have e0 := d0
        rw [Array.getD_eq_getD_getElem?] at e0
        clear hsame hdep
        go_simp
        exact hK _ _ (Ext.refl _ wk) rfl
      · -- slot 87
        intro ac wk hx hsame hdep K hK
        have d86 : ac.tmps.getD 86 undef = .string (strB p) := hdep 31 (by kernel_rfl)
        have e86 := d86
        rw [Array.getD_eq_getD_getElem?] at e86
        clear hsame hdep
        go_simp
        refine (HBA.out wk).mono ?_
        rintro e w' ⟨rfl, hx'⟩
        exact hK _ _ hx' rfl
      · -- slot 88
        intro ac wk hx hsame hdep K hK
        have d12 : ac.tmps.getD 12 undef = .string (strB bp) := hsame 12 (by kernel_rfl)
        have e12 := d12
        rw [Array.getD_eq_getD_getElem?] at e12
        clear hsame hdep
        go_simp
        exact hK _ _ (Ext.refl _ wk) rfl
      · -- slot 89
        intro ac wk hx hsame hdep K hK
        have p87 : (ac.tmps.getD 87 undef) = .string (strB bp) := hdep 32 (by kernel_rfl)
        have d87 := p87
        have e87 := d87
        rw [Array.getD_eq_getD_getElem?] at e87
        have d88 : ac.tmps.getD 88 undef = .string (strB bp) := hdep 33 (by kernel_rfl)
        have e88 := d88
        rw [Array.getD_eq_getD_getElem?] at e88
        clear hsame hdep
        go_simp
        exact hK _ _ (Ext.refl _ wk) rfl
      · -- slot 90
        intro ac wk hx hsame hdep K hK
        have d85 : ac.tmps.getD 85 undef = .bool true := hdep 30 (by kernel_rfl)
        have e85 := d85
        rw [Array.getD_eq_getD_getElem?] at e85
        have d89 : ac.tmps.getD 89 undef = .bool true := hdep 34 (by kernel_rfl)
        have e89 := d89
        rw [Array.getD_eq_getD_getElem?] at e89
        clear hsame hdep
        go_simp
        exact hK _ _ (Ext.refl _ wk) rfl
      · -- slot 91
        intro ac wk hx hsame hdep K hK
        have d90 : ac.tmps.getD 90 undef = .bool true := hdep 35 (by kernel_rfl)
        have e90 := d90
        rw [Array.getD_eq_getD_getElem?] at e90
        clear hsame hdep
        go_simp
        exact hK _ _ (Ext.refl _ wk) rfl
      · -- slot 92
        intro ac wk hx hsame hdep K hK
        have d0 : ac.tmps.getD 0 undef = .string (strB p) := hsame 0 (by kernel_rfl)
        have e0 := d0
        rw [Array.getD_eq_getD_getElem?] at e0
        clear hsame hdep
        go_simp
        exact hK _ _ (Ext.refl _ wk) rfl
      · -- slot 93
        intro ac wk hx hsame hdep K hK
        have d1 : ac.tmps.getD 1 undef = .string (strB q) := hsame 1 (by kernel_rfl)
        have e1 := d1
        rw [Array.getD_eq_getD_getElem?] at e1
        clear hsame hdep
        go_simp
        exact hK _ _ (Ext.refl _ wk) rfl
      · -- slot 94
        intro ac wk hx hsame hdep K hK
        have d92 : ac.tmps.getD 92 undef = .string (strB p) := hdep 37 (by kernel_rfl)
        have e92 := d92
        rw [Array.getD_eq_getD_getElem?] at e92
        have d93 : ac.tmps.getD 93 undef = .string (strB q) := hdep 38 (by kernel_rfl)
        have e93 := d93
        rw [Array.getD_eq_getD_getElem?] at e93
        clear hsame hdep
        go_simp
        refine (HJO.out wk).mono ?_
        rintro e w' ⟨rfl, hx'⟩
        exact hK _ _ hx' rfl
      · -- slot 95
        intro ac wk hx hsame hdep K hK
        have d13 : ac.tmps.getD 13 undef = .string (strB J) := hsame 13 (by kernel_rfl)
        have e13 := d13
        rw [Array.getD_eq_getD_getElem?] at e13
        clear hsame hdep
        go_simp
        exact hK _ _ (Ext.refl _ wk) rfl
      · -- slot 96
        intro ac wk hx hsame hdep K hK
        have p94 : (ac.tmps.getD 94 undef) = .string (strB J) := hdep 39 (by kernel_rfl)
        have d94 := p94
        have e94 := d94
        rw [Array.getD_eq_getD_getElem?] at e94
        have d95 : ac.tmps.getD 95 undef = .string (strB J) := hdep 40 (by kernel_rfl)
        have e95 := d95
        rw [Array.getD_eq_getD_getElem?] at e95
        clear hsame hdep
        go_simp
        exact hK _ _ (Ext.refl _ wk) rfl
      · -- slot 97
        intro ac wk hx hsame hdep K hK
        have d91 : ac.tmps.getD 91 undef = .bool true := hdep 36 (by kernel_rfl)
        have e91 := d91
        rw [Array.getD_eq_getD_getElem?] at e91
        have d96 : ac.tmps.getD 96 undef = .bool true := hdep 41 (by kernel_rfl)
        have e96 := d96
        rw [Array.getD_eq_getD_getElem?] at e96
        clear hsame hdep
        go_simp
        exact hK _ _ (Ext.refl _ wk) rfl
      · -- slot 98
        intro ac wk hx hsame hdep K hK
        have d97 : ac.tmps.getD 97 undef = .bool true := hdep 42 (by kernel_rfl)
        have e97 := d97
        rw [Array.getD_eq_getD_getElem?] at e97
        clear hsame hdep
        go_simp
        exact hK _ _ (Ext.refl _ wk) rfl
      · -- slot 99
        intro ac wk hx hsame hdep K hK
        have d0 : ac.tmps.getD 0 undef = .string (strB p) := hsame 0 (by kernel_rfl)
        have e0 := d0
        rw [Array.getD_eq_getD_getElem?] at e0
        clear hsame hdep
        go_simp
        exact hK _ _ (Ext.refl _ wk) rfl
      · -- slot 100
        intro ac wk hx hsame hdep K hK
        have d1 : ac.tmps.getD 1 undef = .string (strB q) := hsame 1 (by kernel_rfl)
        have e1 := d1
        rw [Array.getD_eq_getD_getElem?] at e1
        clear hsame hdep
        go_simp
        exact hK _ _ (Ext.refl _ wk) rfl
      · -- slot 101
        intro ac wk hx hsame hdep K hK
        have d99 : ac.tmps.getD 99 undef = .string (strB p) := hdep 44 (by kernel_rfl)
        have e99 := d99
        rw [Array.getD_eq_getD_getElem?] at e99
        have d100 : ac.tmps.getD 100 undef = .string (strB q) := hdep 45 (by kernel_rfl)
        have e100 := d100
        rw [Array.getD_eq_getD_getElem?] at e100
        clear hsame hdep
        go_simp
        refine (HLL.out wk).mono ?_
        rintro e w' ⟨rfl, hx'⟩
        exact hK _ _ hx' rfl
      · -- slot 102
        intro ac wk hx hsame hdep K hK
        have d0 : ac.tmps.getD 0 undef = .string (strB p) := hsame 0 (by kernel_rfl)
        have e0 := d0
        rw [Array.getD_eq_getD_getElem?] at e0
        clear hsame hdep
        go_simp
        exact hK _ _ (Ext.refl _ wk) rfl
      · -- slot 103
        intro ac wk hx hsame hdep K hK
        have d1 : ac.tmps.getD 1 undef = .string (strB q) := hsame 1 (by kernel_rfl)
        have e1 := d1
        rw [Array.getD_eq_getD_getElem?] at e1
        clear hsame hdep
        go_simp
        exact hK _ _ (Ext.refl _ wk) rfl
      · -- slot 104
        intro ac wk hx hsame hdep K hK
        have d102 : ac.tmps.getD 102 undef = .string (strB p) := hdep 47 (by kernel_rfl)
        have e102 := d102
        rw [Array.getD_eq_getD_getElem?] at e102
        have d103 : ac.tmps.getD 103 undef = .string (strB q) := hdep 48 (by kernel_rfl)
        have e103 := d103
        rw [Array.getD_eq_getD_getElem?] at e103
        clear hsame hdep
        go_simp
        refine (HRL.out wk).mono ?_
        rintro e w' ⟨rfl, hx'⟩
        exact hK _ _ hx' rfl
      · -- slot 105
        intro ac wk hx hsame hdep K hK
        have p101 : (ac.tmps.getD 101 undef) = .bool lb := hdep 46 (by kernel_rfl)
        have d101 := p101
        have e101 := d101
        rw [Array.getD_eq_getD_getElem?] at e101
        have p104 : (ac.tmps.getD 104 undef) = .bool lb := hdep 49 (by kernel_rfl)
        have d104 := p104
        have e104 := d104
        rw [Array.getD_eq_getD_getElem?] at e104
        clear hsame hdep
        go_simp
        exact hK _ _ (Ext.refl _ wk) rfl
      · -- slot 106
        intro ac wk hx hsame hdep K hK
        have d98 : ac.tmps.getD 98 undef = .bool true := hdep 43 (by kernel_rfl)
        have e98 := d98
        rw [Array.getD_eq_getD_getElem?] at e98
        have d105 : ac.tmps.getD 105 undef = .bool true := hdep 50 (by kernel_rfl)
        have e105 := d105
        rw [Array.getD_eq_getD_getElem?] at e105
        clear hsame hdep
        go_simp
        exact hK _ _ (Ext.refl _ wk) rfl
      · -- slot 107
        intro ac wk hx hsame hdep K hK
        have d106 : ac.tmps.getD 106 undef = .bool true := hdep 51 (by kernel_rfl)
        have e106 := d106
        rw [Array.getD_eq_getD_getElem?] at e106
        clear hsame hdep
        go_simp
        exact hK _ _ (Ext.refl _ wk) rfl
      · -- slot 108
        intro ac wk hx hsame hdep K hK
        have d0 : ac.tmps.getD 0 undef = .string (strB p) := hsame 0 (by kernel_rfl)
        have e0 := d0
        rw [Array.getD_eq_getD_getElem?] at e0
        clear hsame hdep
        go_simp
        exact hK _ _ (Ext.refl _ wk) rfl
      · -- slot 109
        intro ac wk hx hsame hdep K hK
        have d1 : ac.tmps.getD 1 undef = .string (strB q) := hsame 1 (by kernel_rfl)
        have e1 := d1
        rw [Array.getD_eq_getD_getElem?] at e1
        clear hsame hdep
        go_simp
        exact hK _ _ (Ext.refl _ wk) rfl
      · -- slot 110
        intro ac wk hx hsame hdep K hK
        have d108 : ac.tmps.getD 108 undef = .string (strB p) := hdep 53 (by kernel_rfl)
        have e108 := d108
        rw [Array.getD_eq_getD_getElem?] at e108
        have d109 : ac.tmps.getD 109 undef = .string (strB q) := hdep 54 (by kernel_rfl)
        have e109 := d109
        rw [Array.getD_eq_getD_getElem?] at e109
        clear hsame hdep
        go_simp
        refine (HWW.out wk).mono ?_
        rintro e w' ⟨rfl, hx'⟩
        exact hK _ _ hx' rfl
      · -- slot 111
        intro ac wk hx hsame hdep K hK
        have d0 : ac.tmps.getD 0 undef = .string (strB p) := hsame 0 (by kernel_rfl)
        have e0 := d0
        rw [Array.getD_eq_getD_getElem?] at e0
        clear hsame hdep
        go_simp
        exact hK _ _ (Ext.refl _ wk) rfl
      · -- slot 112
        intro ac wk hx hsame hdep K hK
        have d1 : ac.tmps.getD 1 undef = .string (strB q) := hsame 1 (by kernel_rfl)
        have e1 := d1
        rw [Array.getD_eq_getD_getElem?] at e1
        clear hsame hdep
        go_simp
        exact hK _ _ (Ext.refl _ wk) rfl
      · -- slot 113
        intro ac wk hx hsame hdep K hK
        have d111 : ac.tmps.getD 111 undef = .string (strB p) := hdep 56 (by kernel_rfl)
        have e111 := d111
        rw [Array.getD_eq_getD_getElem?] at e111
        have d112 : ac.tmps.getD 112 undef = .string (strB q) := hdep 57 (by kernel_rfl)
        have e112 := d112
        rw [Array.getD_eq_getD_getElem?] at e112
        clear hsame hdep
        go_simp
        refine (HRW.out wk).mono ?_
        rintro e w' ⟨rfl, hx'⟩
        exact hK _ _ hx' rfl
      · -- slot 114
        intro ac wk hx hsame hdep K hK
        have p110 : (ac.tmps.getD 110 undef) = .bool wb := hdep 55 (by kernel_rfl)
        have d110 := p110
        have e110 := d110
        rw [Array.getD_eq_getD_getElem?] at e110
        have p113 : (ac.tmps.getD 113 undef) = .bool wb := hdep 58 (by kernel_rfl)
        have d113 := p113
        have e113 := d113
        rw [Array.getD_eq_getD_getElem?] at e113
        clear hsame hdep
        go_simp
        exact hK _ _ (Ext.refl _ wk) rfl
      · -- slot 115
        intro ac wk hx hsame hdep K hK
        have d107 : ac.tmps.getD 107 undef = .bool true := hdep 52 (by kernel_rfl)
        have e107 := d107
        rw [Array.getD_eq_getD_getElem?] at e107
        have d114 : ac.tmps.getD 114 undef = .bool true := hdep 59 (by kernel_rfl)
        have e114 := d114
        rw [Array.getD_eq_getD_getElem?] at e114
        clear hsame hdep
        go_simp
        exact hK _ _ (Ext.refl _ wk) rfl
      · -- slot 116
        intro ac wk hx hsame hdep K hK
        have d115 : ac.tmps.getD 115 undef = .bool true := hdep 60 (by kernel_rfl)
        have e115 := d115
        rw [Array.getD_eq_getD_getElem?] at e115
        clear hsame hdep
        go_simp
        exact hK _ _ (Ext.refl _ wk) rfl
      · -- slot 117
        intro ac wk hx hsame hdep K hK
        have d0 : ac.tmps.getD 0 undef = .string (strB p) := hsame 0 (by kernel_rfl)
        have e0 := d0
        rw [Array.getD_eq_getD_getElem?] at e0
        clear hsame hdep
        go_simp
        exact hK _ _ (Ext.refl _ wk) rfl
      · -- slot 118
        intro ac wk hx hsame hdep K hK
        have d117 : ac.tmps.getD 117 undef = .string (strB p) := hdep 62 (by kernel_rfl)
        have e117 := d117
        rw [Array.getD_eq_getD_getElem?] at e117
        clear hsame hdep
        go_simp
        refine (HP1.out wk).mono ?_
        rintro e w' ⟨v, rfl, hv, hx'⟩
        exact hK _ _ hx' hv
      · -- slot 119
        intro ac wk hx hsame hdep K hK
        have d14 : ac.tmps.getD 14 undef = .slice (some ⟨vb, vo, none⟩) N vc := hsame 14 (by kernel_rfl)
        have e14 := d14
        rw [Array.getD_eq_getD_getElem?] at e14
        clear hsame hdep
        go_simp
        exact hK _ _ (Ext.refl _ wk) rfl
      · -- slot 120
        intro ac wk hx hsame hdep K hK
        have p118 : IsStrs wk L (ac.tmps.getD 118 undef) := hdep 63 (by kernel_rfl)
        obtain ⟨v118, d118, q118⟩ : ∃ u, ac.tmps.getD 118 undef = u ∧ IsStrs wk L u := ⟨_, rfl, p118⟩
        have e118 := d118
        rw [Array.getD_eq_getD_getElem?] at e118
        have d119 : ac.tmps.getD 119 undef = .slice (some ⟨vb, vo, none⟩) N vc := hdep 64 (by kernel_rfl)
        have e119 := d119
        rw [Array.getD_eq_getD_getElem?] at e119
        clear hsame hdep
        go_simp
        refine (HSS.out L _ _ wk q118 (HV.out.ext0 (Dr.extN hx))).mono ?_
        rintro e w' ⟨rfl, hx'⟩
        exact hK _ _ hx' rfl
      · -- slot 121
        intro ac wk hx hsame hdep K hK
        have d116 : ac.tmps.getD 116 undef = .bool true := hdep 61 (by kernel_rfl)
        have e116 := d116
        rw [Array.getD_eq_getD_getElem?] at e116
        have p120 : (ac.tmps.getD 120 undef) = .bool true := hdep 65 (by kernel_rfl)
        have d120 := p120
        have e120 := d120
        rw [Array.getD_eq_getD_getElem?] at e120
        clear hsame hdep
        go_simp
        exact hK _ _ (Ext.refl _ wk) rfl
      · -- slot 122
        intro ac wk hx hsame hdep K hK
        have d121 : ac.tmps.getD 121 undef = .bool true := hdep 66 (by kernel_rfl)
        have e121 := d121
        rw [Array.getD_eq_getD_getElem?] at e121
        clear hsame hdep
        go_simp
        exact hK _ _ (Ext.refl _ wk) rfl
      · -- slot 123
        intro ac wk hx hsame hdep K hK
        have d0 : ac.tmps.getD 0 undef = .string (strB p) := hsame 0 (by kernel_rfl)
        have e0 := d0
        rw [Array.getD_eq_getD_getElem?] at e0
        clear hsame hdep
        go_simp
        exact hK _ _ (Ext.refl _ wk) rfl
      · -- slot 124
        intro ac wk hx hsame hdep K hK
        have d2 : ac.tmps.getD 2 undef = .int .i64 most := hsame 2 (by kernel_rfl)
        have e2 := d2
        rw [Array.getD_eq_getD_getElem?] at e2
        clear hsame hdep
        go_simp
        exact hK _ _ (Ext.refl _ wk) rfl
      · -- slot 125
        intro ac wk hx hsame hdep K hK
        have d124 : ac.tmps.getD 124 undef = .int .i64 most := hdep 69 (by kernel_rfl)
        have e124 := d124
        rw [Array.getD_eq_getD_getElem?] at e124
        clear hsame hdep
        go_simp
        exact hK _ _ (Ext.refl _ wk) rfl
      · -- slot 126
        intro ac wk hx hsame hdep K hK
        have d123 : ac.tmps.getD 123 undef = .string (strB p) := hdep 68 (by kernel_rfl)
        have e123 := d123
        rw [Array.getD_eq_getD_getElem?] at e123
        have d125 : ac.tmps.getD 125 undef = .int .i64 (r : Int) := hdep 70 (by kernel_rfl)
        have e125 := d125
        rw [Array.getD_eq_getD_getElem?] at e125
        clear hsame hdep
        go_simp
        refine (HP2.out wk).mono ?_
        rintro e w' ⟨v, rfl, hv, hx'⟩
        exact hK _ _ hx' hv
      · -- slot 127
        intro ac wk hx hsame hdep K hK
        have d14 : ac.tmps.getD 14 undef = .slice (some ⟨vb, vo, none⟩) N vc := hsame 14 (by kernel_rfl)
        have e14 := d14
        rw [Array.getD_eq_getD_getElem?] at e14
        clear hsame hdep
        go_simp
        exact hK _ _ (Ext.refl _ wk) rfl
      · -- slot 128
        intro ac wk hx hsame hdep K hK
        have d15 : ac.tmps.getD 15 undef = .int .i64 (s : Int) := hsame 15 (by kernel_rfl)
        have e15 := d15
        rw [Array.getD_eq_getD_getElem?] at e15
        clear hsame hdep
        go_simp
        exact hK _ _ (Ext.refl _ wk) rfl
      · -- slot 129
        intro ac wk hx hsame hdep K hK
        have d127 : ac.tmps.getD 127 undef = .slice (some ⟨vb, vo, none⟩) N vc := hdep 72 (by kernel_rfl)
        have e127 := d127
        rw [Array.getD_eq_getD_getElem?] at e127
        have d128 : ac.tmps.getD 128 undef = .int .i64 (s : Int) := hdep 73 (by kernel_rfl)
        have e128 := d128
        rw [Array.getD_eq_getD_getElem?] at e128
        clear hsame hdep
        go_simp
        exact hK _ _ (Ext.refl _ wk) rfl
      · -- slot 130
        intro ac wk hx hsame hdep K hK
        have p126 : IsStrs wk (L.take s) (ac.tmps.getD 126 undef) := hdep 71 (by kernel_rfl)
        obtain ⟨v126, d126, q126⟩ : ∃ u, ac.tmps.getD 126 undef = u ∧ IsStrs wk (L.take s) u := ⟨_, rfl, p126⟩
        have e126 := d126
        rw [Array.getD_eq_getD_getElem?] at e126
        have d129 : ac.tmps.getD 129 undef = .slice (some ⟨vb, vo, none⟩) s vc := hdep 74 (by kernel_rfl)
        have e129 := d129
        rw [Array.getD_eq_getD_getElem?] at e129
        clear hsame hdep
        go_simp
        refine (HSS.out (L.take s) _ _ wk q126 (HVT.out.ext0 (Dr.extN hx))).mono ?_
        rintro e w' ⟨rfl, hx'⟩
        exact hK _ _ hx' rfl
      · -- slot 131
        intro ac wk hx hsame hdep K hK
        have d122 : ac.tmps.getD 122 undef = .bool true := hdep 67 (by kernel_rfl)
        have e122 := d122
        rw [Array.getD_eq_getD_getElem?] at e122
        have p130 : (ac.tmps.getD 130 undef) = .bool true := hdep 75 (by kernel_rfl)
        have d130 := p130
        have e130 := d130
        rw [Array.getD_eq_getD_getElem?] at e130
        clear hsame hdep
        go_simp
        exact hK _ _ (Ext.refl _ wk) rfl
      · intro ac wk hx hdf hsz hsame hvals
        have f0 : ac.tmps.getD 0 undef = .string (strB p) := hsame 0 (by kernel_rfl)
        have f1 : ac.tmps.getD 1 undef = .string (strB q) := hsame 1 (by kernel_rfl)
        have f2 : ac.tmps.getD 2 undef = .int .i64 most := hsame 2 (by kernel_rfl)
        obtain ⟨u3, f3⟩ : ∃ u, ac.tmps.getD 3 undef = u := ⟨_, rfl⟩
        obtain ⟨u4, f4⟩ : ∃ u, ac.tmps.getD 4 undef = u := ⟨_, rfl⟩
        obtain ⟨u5, f5⟩ : ∃ u, ac.tmps.getD 5 undef = u := ⟨_, rfl⟩
        obtain ⟨u6, f6⟩ : ∃ u, ac.tmps.getD 6 undef = u := ⟨_, rfl⟩
        have f7 : ac.tmps.getD 7 undef = .string (strB c) := hsame 7 (by kernel_rfl)
        have f8 : ac.tmps.getD 8 undef = .int .i64 0 := hsame 8 (by kernel_rfl)
        have f9 : ac.tmps.getD 9 undef = .string (strB c) := hsame 9 (by kernel_rfl)
        have f10 : ac.tmps.getD 10 undef = .bool true := hsame 10 (by kernel_rfl)
        have f11 : ac.tmps.getD 11 undef = .string (strB pp) := hsame 11 (by kernel_rfl)
        have f12 : ac.tmps.getD 12 undef = .string (strB bp) := hsame 12 (by kernel_rfl)
        have f13 : ac.tmps.getD 13 undef = .string (strB J) := hsame 13 (by kernel_rfl)
        have f14 : ac.tmps.getD 14 undef = .slice (some ⟨vb, vo, none⟩) N vc := hsame 14 (by kernel_rfl)
        have f15 : ac.tmps.getD 15 undef = .int .i64 (s : Int) := hsame 15 (by kernel_rfl)
        obtain ⟨u16, f16⟩ : ∃ u, ac.tmps.getD 16 undef = u := ⟨_, rfl⟩
        obtain ⟨u17, f17⟩ : ∃ u, ac.tmps.getD 17 undef = u := ⟨_, rfl⟩
        obtain ⟨u18, f18⟩ : ∃ u, ac.tmps.getD 18 undef = u := ⟨_, rfl⟩
        obtain ⟨u19, f19⟩ : ∃ u, ac.tmps.getD 19 undef = u := ⟨_, rfl⟩
        obtain ⟨u20, f20⟩ : ∃ u, ac.tmps.getD 20 undef = u := ⟨_, rfl⟩
        obtain ⟨u21, f21⟩ : ∃ u, ac.tmps.getD 21 undef = u := ⟨_, rfl⟩
        obtain ⟨u22, f22⟩ : ∃ u, ac.tmps.getD 22 undef = u := ⟨_, rfl⟩
        obtain ⟨u23, f23⟩ : ∃ u, ac.tmps.getD 23 undef = u := ⟨_, rfl⟩
        obtain ⟨u24, f24⟩ : ∃ u, ac.tmps.getD 24 undef = u := ⟨_, rfl⟩
        obtain ⟨u25, f25⟩ : ∃ u, ac.tmps.getD 25 undef = u := ⟨_, rfl⟩
        obtain ⟨u26, f26⟩ : ∃ u, ac.tmps.getD 26 undef = u := ⟨_, rfl⟩
        obtain ⟨u27, f27⟩ : ∃ u, ac.tmps.getD 27 undef = u := ⟨_, rfl⟩
        obtain ⟨u28, f28⟩ : ∃ u, ac.tmps.getD 28 undef = u := ⟨_, rfl⟩
        obtain ⟨u29, f29⟩ : ∃ u, ac.tmps.getD 29 undef = u := ⟨_, rfl⟩
        obtain ⟨u30, f30⟩ : ∃ u, ac.tmps.getD 30 undef = u := ⟨_, rfl⟩
        obtain ⟨u31, f31⟩ : ∃ u, ac.tmps.getD 31 undef = u := ⟨_, rfl⟩
        obtain ⟨u32, f32⟩ : ∃ u, ac.tmps.getD 32 undef = u := ⟨_, rfl⟩
        obtain ⟨u33, f33⟩ : ∃ u, ac.tmps.getD 33 undef = u := ⟨_, rfl⟩
        obtain ⟨u34, f34⟩ : ∃ u, ac.tmps.getD 34 undef = u := ⟨_, rfl⟩
        obtain ⟨u35, f35⟩ : ∃ u, ac.tmps.getD 35 undef = u := ⟨_, rfl⟩
        obtain ⟨u36, f36⟩ : ∃ u, ac.tmps.getD 36 undef = u := ⟨_, rfl⟩
        obtain ⟨u37, f37⟩ : ∃ u, ac.tmps.getD 37 undef = u := ⟨_, rfl⟩
        obtain ⟨u38, f38⟩ : ∃ u, ac.tmps.getD 38 undef = u := ⟨_, rfl⟩
        obtain ⟨u39, f39⟩ : ∃ u, ac.tmps.getD 39 undef = u := ⟨_, rfl⟩
        obtain ⟨u40, f40⟩ : ∃ u, ac.tmps.getD 40 undef = u := ⟨_, rfl⟩
        obtain ⟨u41, f41⟩ : ∃ u, ac.tmps.getD 41 undef = u := ⟨_, rfl⟩
        obtain ⟨u42, f42⟩ : ∃ u, ac.tmps.getD 42 undef = u := ⟨_, rfl⟩
        obtain ⟨u43, f43⟩ : ∃ u, ac.tmps.getD 43 undef = u := ⟨_, rfl⟩
        obtain ⟨u44, f44⟩ : ∃ u, ac.tmps.getD 44 undef = u := ⟨_, rfl⟩
        obtain ⟨u45, f45⟩ : ∃ u, ac.tmps.getD 45 undef = u := ⟨_, rfl⟩
        obtain ⟨u46, f46⟩ : ∃ u, ac.tmps.getD 46 undef = u := ⟨_, rfl⟩
        obtain ⟨u47, f47⟩ : ∃ u, ac.tmps.getD 47 undef = u := ⟨_, rfl⟩
        obtain ⟨u48, f48⟩ : ∃ u, ac.tmps.getD 48 undef = u := ⟨_, rfl⟩
        obtain ⟨u49, f49⟩ : ∃ u, ac.tmps.getD 49 undef = u := ⟨_, rfl⟩
        obtain ⟨u50, f50⟩ : ∃ u, ac.tmps.getD 50 undef = u := ⟨_, rfl⟩
        obtain ⟨u51, f51⟩ : ∃ u, ac.tmps.getD 51 undef = u := ⟨_, rfl⟩
        obtain ⟨u52, f52⟩ : ∃ u, ac.tmps.getD 52 undef = u := ⟨_, rfl⟩
        obtain ⟨u53, f53⟩ : ∃ u, ac.tmps.getD 53 undef = u := ⟨_, rfl⟩
        obtain ⟨u54, f54⟩ : ∃ u, ac.tmps.getD 54 undef = u := ⟨_, rfl⟩
        have f55 : ac.tmps.getD 55 undef = .string (strB c) := hvals 0 (by decide)
        have f56 : ac.tmps.getD 56 undef = .string (strB c) := hvals 1 (by decide)
        have f57 : ac.tmps.getD 57 undef = .bool true := hvals 2 (by decide)
        have f58 : ac.tmps.getD 58 undef = .bool true := hvals 3 (by decide)
        have f59 : ac.tmps.getD 59 undef = .int .i64 0 := hvals 4 (by decide)
        have f60 : ac.tmps.getD 60 undef = .bool true := hvals 5 (by decide)
        have f61 : ac.tmps.getD 61 undef = .bool true := hvals 6 (by decide)
        have f62 : ac.tmps.getD 62 undef = .bool true := hvals 7 (by decide)
        have f63 : ac.tmps.getD 63 undef = .bool true := hvals 8 (by decide)
        have f64 : ac.tmps.getD 64 undef = .bool true := hvals 9 (by decide)
        have f65 : ac.tmps.getD 65 undef = .bool true := hvals 10 (by decide)
        have f66 : ac.tmps.getD 66 undef = .bool true := hvals 11 (by decide)
        have f67 : ac.tmps.getD 67 undef = undef := hvals 12 (by decide)
        have f68 : ac.tmps.getD 68 undef = undef := hvals 13 (by decide)
        have f69 : ac.tmps.getD 69 undef = .bool true := hvals 14 (by decide)
        have f70 : ac.tmps.getD 70 undef = .bool true := hvals 15 (by decide)
        have f71 : ac.tmps.getD 71 undef = .bool true := hvals 16 (by decide)
        have f72 : ac.tmps.getD 72 undef = .string (strB p) := hvals 17 (by decide)
        obtain ⟨u73, f73⟩ : ∃ u, ac.tmps.getD 73 undef = u := ⟨_, rfl⟩
        have f74 : ac.tmps.getD 74 undef = .bool rb := hvals 19 (by decide)
        have f75 : ac.tmps.getD 75 undef = .string (strB p) := hvals 20 (by decide)
        obtain ⟨u76, f76⟩ : ∃ u, ac.tmps.getD 76 undef = u := ⟨_, rfl⟩
        have f77 : ac.tmps.getD 77 undef = .bool true := hvals 22 (by decide)
        have f78 : ac.tmps.getD 78 undef = .bool true := hvals 23 (by decide)
        have f79 : ac.tmps.getD 79 undef = .bool true := hvals 24 (by decide)
        have f80 : ac.tmps.getD 80 undef = .string (strB p) := hvals 25 (by decide)
        obtain ⟨u81, f81⟩ : ∃ u, ac.tmps.getD 81 undef = u := ⟨_, rfl⟩
        have f82 : ac.tmps.getD 82 undef = .string (strB pp) := hvals 27 (by decide)
        have f83 : ac.tmps.getD 83 undef = .bool true := hvals 28 (by decide)
        have f84 : ac.tmps.getD 84 undef = .bool true := hvals 29 (by decide)
        have f85 : ac.tmps.getD 85 undef = .bool true := hvals 30 (by decide)
        have f86 : ac.tmps.getD 86 undef = .string (strB p) := hvals 31 (by decide)
        obtain ⟨u87, f87⟩ : ∃ u, ac.tmps.getD 87 undef = u := ⟨_, rfl⟩
        have f88 : ac.tmps.getD 88 undef = .string (strB bp) := hvals 33 (by decide)
        have f89 : ac.tmps.getD 89 undef = .bool true := hvals 34 (by decide)
        have f90 : ac.tmps.getD 90 undef = .bool true := hvals 35 (by decide)
        have f91 : ac.tmps.getD 91 undef = .bool true := hvals 36 (by decide)
        have f92 : ac.tmps.getD 92 undef = .string (strB p) := hvals 37 (by decide)
        have f93 : ac.tmps.getD 93 undef = .string (strB q) := hvals 38 (by decide)
        obtain ⟨u94, f94⟩ : ∃ u, ac.tmps.getD 94 undef = u := ⟨_, rfl⟩
        have f95 : ac.tmps.getD 95 undef = .string (strB J) := hvals 40 (by decide)
        have f96 : ac.tmps.getD 96 undef = .bool true := hvals 41 (by decide)
        have f97 : ac.tmps.getD 97 undef = .bool true := hvals 42 (by decide)
        have f98 : ac.tmps.getD 98 undef = .bool true := hvals 43 (by decide)
        have f99 : ac.tmps.getD 99 undef = .string (strB p) := hvals 44 (by decide)
        have f100 : ac.tmps.getD 100 undef = .string (strB q) := hvals 45 (by decide)
        obtain ⟨u101, f101⟩ : ∃ u, ac.tmps.getD 101 undef = u := ⟨_, rfl⟩
        have f102 : ac.tmps.getD 102 undef = .string (strB p) := hvals 47 (by decide)
        have f103 : ac.tmps.getD 103 undef = .string (strB q) := hvals 48 (by decide)
        obtain ⟨u104, f104⟩ : ∃ u, ac.tmps.getD 104 undef = u := ⟨_, rfl⟩
        have f105 : ac.tmps.getD 105 undef = .bool true := hvals 50 (by decide)
        have f106 : ac.tmps.getD 106 undef = .bool true := hvals 51 (by decide)
        have f107 : ac.tmps.getD 107 undef = .bool true := hvals 52 (by decide)
        have f108 : ac.tmps.getD 108 undef = .string (strB p) := hvals 53 (by decide)
        have f109 : ac.tmps.getD 109 undef = .string (strB q) := hvals 54 (by decide)
        obtain ⟨u110, f110⟩ : ∃ u, ac.tmps.getD 110 undef = u := ⟨_, rfl⟩
        have f111 : ac.tmps.getD 111 undef = .string (strB p) := hvals 56 (by decide)
        have f112 : ac.tmps.getD 112 undef = .string (strB q) := hvals 57 (by decide)
        obtain ⟨u113, f113⟩ : ∃ u, ac.tmps.getD 113 undef = u := ⟨_, rfl⟩
        have f114 : ac.tmps.getD 114 undef = .bool true := hvals 59 (by decide)
        have f115 : ac.tmps.getD 115 undef = .bool true := hvals 60 (by decide)
        have f116 : ac.tmps.getD 116 undef = .bool true := hvals 61 (by decide)
        have f117 : ac.tmps.getD 117 undef = .string (strB p) := hvals 62 (by decide)
        obtain ⟨u118, f118⟩ : ∃ u, ac.tmps.getD 118 undef = u := ⟨_, rfl⟩
        have f119 : ac.tmps.getD 119 undef = .slice (some ⟨vb, vo, none⟩) N vc := hvals 64 (by decide)
        obtain ⟨u120, f120⟩ : ∃ u, ac.tmps.getD 120 undef = u := ⟨_, rfl⟩
        have f121 : ac.tmps.getD 121 undef = .bool true := hvals 66 (by decide)
        have f122 : ac.tmps.getD 122 undef = .bool true := hvals 67 (by decide)
        have f123 : ac.tmps.getD 123 undef = .string (strB p) := hvals 68 (by decide)
        have f124 : ac.tmps.getD 124 undef = .int .i64 most := hvals 69 (by decide)
        have f125 : ac.tmps.getD 125 undef = .int .i64 (r : Int) := hvals 70 (by decide)
        obtain ⟨u126, f126⟩ : ∃ u, ac.tmps.getD 126 undef = u := ⟨_, rfl⟩
        have f127 : ac.tmps.getD 127 undef = .slice (some ⟨vb, vo, none⟩) N vc := hvals 72 (by decide)
        have f128 : ac.tmps.getD 128 undef = .int .i64 (s : Int) := hvals 73 (by decide)
        have f129 : ac.tmps.getD 129 undef = .slice (some ⟨vb, vo, none⟩) s vc := hvals 74 (by decide)
        obtain ⟨u130, f130⟩ : ∃ u, ac.tmps.getD 130 undef = u := ⟨_, rfl⟩
        have f131 : ac.tmps.getD 131 undef = .bool true := hvals 76 (by decide)
        have hlit : ac = ⟨#[.string (strB p), .string (strB q), .int .i64 most, u3, u4, u5, u6, .string (strB c), .int .i64 0, .string (strB c), .bool true, .string (strB pp), .string (strB bp), .string (strB J), .slice (some ⟨vb, vo, none⟩) N vc, .int .i64 (s : Int), u16, u17, u18, u19, u20, u21, u22, u23, u24, u25, u26, u27, u28, u29, u30, u31, u32, u33, u34, u35, u36, u37, u38, u39, u40, u41, u42, u43, u44, u45, u46, u47, u48, u49, u50, u51, u52, u53, u54, .string (strB c), .string (strB c), .bool true, .bool true, .int .i64 0, .bool true, .bool true, .bool true, .bool true, .bool true, .bool true, .bool true, undef, undef, .bool true, .bool true, .bool true, .string (strB p), u73, .bool rb, .string (strB p), u76, .bool true, .bool true, .bool true, .string (strB p), u81, .string (strB pp), .bool true, .bool true, .bool true, .string (strB p), u87, .string (strB bp), .bool true, .bool true, .bool true, .string (strB p), .string (strB q), u94, .string (strB J), .bool true, .bool true, .bool true, .string (strB p), .string (strB q), u101, .string (strB p), .string (strB q), u104, .bool true, .bool true, .bool true, .string (strB p), .string (strB q), u110, .string (strB p), .string (strB q), u113, .bool true, .bool true, .bool true, .string (strB p), u118, .slice (some ⟨vb, vo, none⟩) N vc, u120, .bool true, .bool true, .string (strB p), .int .i64 most, .int .i64 (r : Int), u126, .slice (some ⟨vb, vo, none⟩) N vc, .int .i64 (s : Int), .slice (some ⟨vb, vo, none⟩) s vc, u130, .bool true], []⟩ := by
          refine (act_lit hsz hdf).trans ?_
          rw [show List.range _ = [0, 1, 2, 3, 4, 5, 6, 7, 8, 9, 10, 11, 12, 13, 14, 15, 16, 17, 18, 19, 20, 21, 22, 23, 24, 25, 26, 27, 28, 29, 30, 31, 32, 33, 34, 35, 36, 37, 38, 39, 40, 41, 42, 43, 44, 45, 46, 47, 48, 49, 50, 51, 52, 53, 54, 55, 56, 57, 58, 59, 60, 61, 62, 63, 64, 65, 66, 67, 68, 69, 70, 71, 72, 73, 74, 75, 76, 77, 78, 79, 80, 81, 82, 83, 84, 85, 86, 87, 88, 89, 90, 91, 92, 93, 94, 95, 96, 97, 98, 99, 100, 101, 102, 103, 104, 105, 106, 107, 108, 109, 110, 111, 112, 113, 114, 115, 116, 117, 118, 119, 120, 121, 122, 123, 124, 125, 126, 127, 128, 129, 130, 131] from rfl]
          simp only [List.map_cons, List.map_nil, f0, f1, f2, f3, f4, f5, f6, f7, f8, f9, f10, f11, f12, f13, f14, f15, f16, f17, f18, f19, f20, f21, f22, f23, f24, f25, f26, f27, f28, f29, f30, f31, f32, f33, f34, f35, f36, f37, f38, f39, f40, f41, f42, f43, f44, f45, f46, f47, f48, f49, f50, f51, f52, f53, f54, f55, f56, f57, f58, f59, f60, f61, f62, f63, f64, f65, f66, f67, f68, f69, f70, f71, f72, f73, f74, f75, f76, f77, f78, f79, f80, f81, f82, f83, f84, f85, f86, f87, f88, f89, f90, f91, f92, f93, f94, f95, f96, f97, f98, f99, f100, f101, f102, f103, f104, f105, f106, f107, f108, f109, f110, f111, f112, f113, f114, f115, f116, f117, f118, f119, f120, f121, f122, f123, f124, f125, f126, f127, f128, f129, f130, f131]
        clear hvals hsame hdf hsz f0 f1 f2 f3 f4 f5 f6 f7 f8 f9 f10 f11 f12 f13 f14 f15 f16 f17 f18 f19 f20 f21 f22 f23 f24 f25 f26 f27 f28 f29 f30 f31 f32 f33 f34 f35 f36 f37 f38 f39 f40 f41 f42 f43 f44 f45 f46 f47 f48 f49 f50 f51 f52 f53 f54 f55 f56 f57 f58 f59 f60 f61 f62 f63 f64 f65 f66 f67 f68 f69 f70 f71 f72 f73 f74 f75 f76 f77 f78 f79 f80 f81 f82 f83 f84 f85 f86 f87 f88 f89 f90 f91 f92 f93 f94 f95 f96 f97 f98 f99 f100 f101 f102 f103 f104 f105 f106 f107 f108 f109 f110 f111 f112 f113 f114 f115 f116 f117 f118 f119 f120 f121 f122 f123 f124 f125 f126 f127 f128 f129 f130 f131
        subst hlit
        simp only [List.drop_succ_cons, List.drop_zero]
        go_wp2_with fail
        go_ret
        exact ⟨rfl, HE.out.trans' hx⟩
  · rw [hc1] at HCL; rw [hc1'] at HRC
    rcases hc3 with ⟨hc3, hc3', hc3''⟩ | ⟨hc3, hc3', hc3''⟩
    · rw [hc3''] at HJO
      go_enter Tryd.func3, Tryd.ntmps3
      go_wp2_with fail
      refine (alive_any w).mono ?_
      rintro e w1 ⟨rfl, hE1⟩
      have HE := Lib.hid hE1
      clear hE1
      dsimp only
      go_wp2_with (first | (go_at_call 9; refine (HCL.out _).mono ?_; rintro e w' ⟨rfl, hE'⟩; replace HE := Lib.hid (HE.out.trans' hE'); clear hE') | (go_at_call 10; refine (HRC.out _).mono ?_; rintro e w' ⟨rfl, hE'⟩; replace HE := Lib.hid (HE.out.trans' hE'); clear hE') | (go_at_call 11; refine (HRU.out _).mono ?_; rintro e w' ⟨rfl, hE'⟩; replace HE := Lib.hid (HE.out.trans' hE'); clear hE') | (go_at_call 12; refine (HRP.out _).mono ?_; rintro e w' ⟨vb, vo, vc, rfl, hvc, hvc2, hv, hE'⟩; replace HE := Lib.hid (HE.out.trans' hE'); have HV := Lib.hid hv; clear hE' hv))
      have hsc : (s : Int) ≤ vc := by omega
      have HVT := Lib.hid (strs_take HV.out HSN.out)
      refine wp_region_headG 77 (fun i => !([] : List Nat).contains i) No (TellsV2 p q [] pp bp [] rb lb wb ck most L vb vo N vc r s) (by kernel_rfl) (by kernel_rfl) (by kernel_rfl) (TellsV2_ext p q [] pp bp [] rb lb wb ck most L vb vo N vc r s) (HeadStepsG.cons (by rfl) (by exact trivial) ?_ (HeadStepsG.cons (by rfl) (by exact trivial) ?_ (HeadStepsG.cons (by rfl) (by exact trivial) ?_ (HeadStepsG.cons (by rfl) (by exact trivial) ?_ (HeadStepsG.cons (by rfl) (by exact fun _ _ h => h) ?_ (HeadStepsG.cons (by rfl) (by exact fun _ _ h => h) ?_ (HeadStepsG.cons (by rfl) (by exact fun _ _ h => h) ?_ (HeadStepsG.cons (by rfl) (by exact fun _ _ h => h) ?_ (HeadStepsG.cons (by rfl) (by exact trivial) ?_ (HeadStepsG.cons (by rfl) (by exact trivial) ?_ (HeadStepsG.cons (by rfl) (by exact fun _ _ h => h) ?_ (HeadStepsG.cons (by rfl) (by exact fun _ _ h => h) ?_ (HeadStepsG.cons (by rfl) (by exact fun _ _ h => h) ?_ (HeadStepsG.cons (by rfl) (by exact fun _ _ h => h) ?_ (HeadStepsG.cons (by rfl) (by exact fun _ _ h => h) ?_ (HeadStepsG.cons (by rfl) (by exact trivial) ?_ (HeadStepsG.cons (by rfl) (by exact trivial) ?_ (HeadStepsG.cons (by rfl) (by exact fun _ _ h => h) ?_ (HeadStepsG.cons (by rfl) (by exact fun _ _ h => h) ?_ (HeadStepsG.cons (by rfl) (by exact fun _ _ h => h) ?_ (HeadStepsG.cons (by rfl) (by exact fun _ _ h => h) ?_ (HeadStepsG.cons (by rfl) (by exact fun _ _ h => h) ?_ (HeadStepsG.cons (by rfl) (by exact fun _ _ h => h) ?_ (HeadStepsG.cons (by rfl) (by exact trivial) ?_ (HeadStepsG.cons (by rfl) (by exact trivial) ?_ (HeadStepsG.cons (by rfl) (by exact fun _ _ h => h) ?_ (HeadStepsG.cons (by rfl) (by exact fun _ _ h => h) ?_ (HeadStepsG.cons (by rfl) (by exact fun _ _ h => h) ?_ (HeadStepsG.cons (by rfl) (by exact fun _ _ h => h) ?_ (HeadStepsG.cons (by rfl) (by exact trivial) ?_ (HeadStepsG.cons (by rfl) (by exact trivial) ?_ (HeadStepsG.cons (by rfl) (by exact fun _ _ h => h) ?_ (HeadStepsG.cons (by rfl) (by exact fun _ _ h => h) ?_ (HeadStepsG.cons (by rfl) (by exact fun _ _ h => h) ?_ (HeadStepsG.cons (by rfl) (by exact fun _ _ h => h) ?_ (HeadStepsG.cons (by rfl) (by exact trivial) ?_ (HeadStepsG.cons (by rfl) (by exact trivial) ?_ (HeadStepsG.cons (by rfl) (by exact fun _ _ h => h) ?_ (HeadStepsG.cons (by rfl) (by exact fun _ _ h => h) ?_ (HeadStepsG.cons (by rfl) (by exact fun _ _ h => h) ?_ (HeadStepsG.cons (by rfl) (by exact fun _ _ h => h) ?_ (HeadStepsG.cons (by rfl) (by exact fun _ _ h => h) ?_ (HeadStepsG.cons (by rfl) (by exact trivial) ?_ (HeadStepsG.cons (by rfl) (by exact trivial) ?_ (HeadStepsG.cons (by rfl) (by exact fun _ _ h => h) ?_ (HeadStepsG.cons (by rfl) (by exact fun _ _ h => h) ?_ (HeadStepsG.cons (by rfl) (by exact fun _ _ h => h) ?_ (HeadStepsG.cons (by rfl) (by exact fun _ _ h => h) ?_ (HeadStepsG.cons (by rfl) (by exact fun _ _ h => h) ?_ (HeadStepsG.cons (by rfl) (by exact fun _ _ h => h) ?_ (HeadStepsG.cons (by rfl) (by exact fun _ _ h => h) ?_ (HeadStepsG.cons (by rfl) (by exact trivial) ?_ (HeadStepsG.cons (by rfl) (by exact trivial) ?_ (HeadStepsG.cons (by rfl) (by exact fun _ _ h => h) ?_ (HeadStepsG.cons (by rfl) (by exact fun _ _ h => h) ?_ (HeadStepsG.cons (by rfl) (by exact fun _ _ h => h) ?_ (HeadStepsG.cons (by rfl) (by exact fun _ _ h => h) ?_ (HeadStepsG.cons (by rfl) (by exact fun _ _ h => h) ?_ (HeadStepsG.cons (by rfl) (by exact fun _ _ h => h) ?_ (HeadStepsG.cons (by rfl) (by exact fun _ _ h => h) ?_ (HeadStepsG.cons (by rfl) (by exact trivial) ?_ (HeadStepsG.cons (by rfl) (by exact trivial) ?_ (HeadStepsG.cons (by rfl) (by exact fun _ _ h => h) ?_ (HeadStepsG.cons (by rfl) (by exact fun _ _ h => h) ?_ (HeadStepsG.cons (by rfl) (by exact fun _ _ h => h) ?_ (HeadStepsG.cons (by rfl) (by exact fun _ _ h => h) ?_ (HeadStepsG.cons (by rfl) (by exact trivial) ?_ (HeadStepsG.cons (by rfl) (by exact trivial) ?_ (HeadStepsG.cons (by rfl) (by exact fun _ _ h => h) ?_ (HeadStepsG.cons (by rfl) (by exact fun _ _ h => h) ?_ (HeadStepsG.cons (by rfl) (by exact fun _ _ h => h) ?_ (HeadStepsG.cons (by rfl) (by exact fun _ _ h => h) ?_ (HeadStepsG.cons (by rfl) (by exact fun _ _ h => h) ?_ (HeadStepsG.cons (by rfl) (by exact fun _ _ h => h) ?_ (HeadStepsG.cons (by rfl) (by exact fun _ _ h => h) ?_ (HeadStepsG.cons (by rfl) (by exact fun _ _ h => h) ?_ (HeadStepsG.cons (by rfl) (by exact trivial) ?_ HeadStepsG.nil))))))))))))))))))))))))))))))))))))))))))))))))))))))))))))))))))))))))))))) ?_
      · -- slot 55
        intro ac wk hx hsame hdep K hK
        have d7 : ac.tmps.getD 7 undef = .string ⟨#[]⟩ := hsame 7 (by kernel_rfl)
        have e7 := d7
        rw [Array.getD_eq_getD_getElem?] at e7
        clear hsame hdep
        go_simp
        exact hK _ _ (Ext.refl _ wk) rfl
      · -- slot 56
        intro ac wk hx hsame hdep K hK
        have d9 : ac.tmps.getD 9 undef = .string ⟨#[]⟩ := hsame 9 (by kernel_rfl)
        have e9 := d9
        rw [Array.getD_eq_getD_getElem?] at e9
        clear hsame hdep
        go_simp
        exact hK _ _ (Ext.refl _ wk) rfl
      · -- slot 57
        intro ac wk hx hsame hdep K hK
        have d55 : ac.tmps.getD 55 undef = .string ⟨#[]⟩ := hdep 0 (by kernel_rfl)
        have e55 := d55
        rw [Array.getD_eq_getD_getElem?] at e55
        have d56 : ac.tmps.getD 56 undef = .string ⟨#[]⟩ := hdep 1 (by kernel_rfl)
        have e56 := d56
        rw [Array.getD_eq_getD_getElem?] at e56
        clear hsame hdep
        go_simp
        exact hK _ _ (Ext.refl _ wk) rfl
      · -- slot 58
        intro ac wk hx hsame hdep K hK
        have d57 : ac.tmps.getD 57 undef = .bool true := hdep 2 (by kernel_rfl)
        have e57 := d57
        rw [Array.getD_eq_getD_getElem?] at e57
        clear hsame hdep
        go_simp
        exact hK _ _ (Ext.refl _ wk) rfl
      · -- slot 59
        intro ac wk hx hsame hdep K hK
        have d8 : ac.tmps.getD 8 undef = .int .i64 38 := hsame 8 (by kernel_rfl)
        have e8 := d8
        rw [Array.getD_eq_getD_getElem?] at e8
        clear hsame hdep
        go_simp
        exact hK _ _ (Ext.refl _ wk) rfl
      · -- slot 60
        intro ac wk hx hsame hdep K hK
        have d59 : ac.tmps.getD 59 undef = .int .i64 38 := hdep 4 (by kernel_rfl)
        have e59 := d59
        rw [Array.getD_eq_getD_getElem?] at e59
        clear hsame hdep
        go_simp
        exact hK _ _ (Ext.refl _ wk) rfl
      · -- slot 61
        intro ac wk hx hsame hdep K hK
        have d10 : ac.tmps.getD 10 undef = .bool false := hsame 10 (by kernel_rfl)
        have e10 := d10
        rw [Array.getD_eq_getD_getElem?] at e10
        clear hsame hdep
        go_simp
        exact hK _ _ (Ext.refl _ wk) rfl
      · -- slot 62
        intro ac wk hx hsame hdep K hK
        have d60 : ac.tmps.getD 60 undef = .bool false := hdep 5 (by kernel_rfl)
        have e60 := d60
        rw [Array.getD_eq_getD_getElem?] at e60
        have d61 : ac.tmps.getD 61 undef = .bool false := hdep 6 (by kernel_rfl)
        have e61 := d61
        rw [Array.getD_eq_getD_getElem?] at e61
        clear hsame hdep
        go_simp
        exact hK _ _ (Ext.refl _ wk) rfl
      · -- slot 63
        intro ac wk hx hsame hdep K hK
        have d58 : ac.tmps.getD 58 undef = .bool true := hdep 3 (by kernel_rfl)
        have e58 := d58
        rw [Array.getD_eq_getD_getElem?] at e58
        have d62 : ac.tmps.getD 62 undef = .bool true := hdep 7 (by kernel_rfl)
        have e62 := d62
        rw [Array.getD_eq_getD_getElem?] at e62
        clear hsame hdep
        go_simp
        exact hK _ _ (Ext.refl _ wk) rfl
      · -- slot 64
        intro ac wk hx hsame hdep K hK
        have d63 : ac.tmps.getD 63 undef = .bool true := hdep 8 (by kernel_rfl)
        have e63 := d63
        rw [Array.getD_eq_getD_getElem?] at e63
        clear hsame hdep
        go_simp
        exact hK _ _ (Ext.refl _ wk) rfl
      · -- slot 65
        intro ac wk hx hsame hdep K hK
        have d10 : ac.tmps.getD 10 undef = .bool false := hsame 10 (by kernel_rfl)
        have e10 := d10
        rw [Array.getD_eq_getD_getElem?] at e10
        clear hsame hdep
        go_simp
        exact hK _ _ (Ext.refl _ wk) rfl
      · -- slot 66
        intro ac wk hx hsame hdep K hK
        have d65 : ac.tmps.getD 65 undef = .bool false := hdep 10 (by kernel_rfl)
        have e65 := d65
        rw [Array.getD_eq_getD_getElem?] at e65
        clear hsame hdep
        go_simp
        exact hK _ _ (Ext.refl _ wk) rfl
      · -- slot 67
        intro ac wk hx hsame hdep K hK
        have d8 : ac.tmps.getD 8 undef = .int .i64 38 := hsame 8 (by kernel_rfl)
        have e8 := d8
        rw [Array.getD_eq_getD_getElem?] at e8
        clear hsame hdep
        go_simp
        exact hK _ _ (Ext.refl _ wk) rfl
      · -- slot 68
        intro ac wk hx hsame hdep K hK
        have d67 : ac.tmps.getD 67 undef = .int .i64 38 := hdep 12 (by kernel_rfl)
        have e67 := d67
        rw [Array.getD_eq_getD_getElem?] at e67
        clear hsame hdep
        go_simp
        exact hK _ _ (Ext.refl _ wk) rfl
      · -- slot 69
        intro ac wk hx hsame hdep K hK
        have d66 : ac.tmps.getD 66 undef = .bool false := hdep 11 (by kernel_rfl)
        have e66 := d66
        rw [Array.getD_eq_getD_getElem?] at e66
        have d68 : ac.tmps.getD 68 undef = .bool true := hdep 13 (by kernel_rfl)
        have e68 := d68
        rw [Array.getD_eq_getD_getElem?] at e68
        clear hsame hdep
        go_simp
        exact hK _ _ (Ext.refl _ wk) rfl
      · -- slot 70
        intro ac wk hx hsame hdep K hK
        have d64 : ac.tmps.getD 64 undef = .bool true := hdep 9 (by kernel_rfl)
        have e64 := d64
        rw [Array.getD_eq_getD_getElem?] at e64
        have d69 : ac.tmps.getD 69 undef = .bool true := hdep 14 (by kernel_rfl)
        have e69 := d69
        rw [Array.getD_eq_getD_getElem?] at e69
        clear hsame hdep
        go_simp
        exact hK _ _ (Ext.refl _ wk) rfl
      · -- slot 71
        intro ac wk hx hsame hdep K hK
        have d70 : ac.tmps.getD 70 undef = .bool true := hdep 15 (by kernel_rfl)
        have e70 := d70
        rw [Array.getD_eq_getD_getElem?] at e70
        clear hsame hdep
        go_simp
        exact hK _ _ (Ext.refl _ wk) rfl
      · -- slot 72
        intro ac wk hx hsame hdep K hK
        have d0 : ac.tmps.getD 0 undef = .string (strB p) := hsame 0 (by kernel_rfl)
        have e0 := d0
        rw [Array.getD_eq_getD_getElem?] at e0
        clear hsame hdep
        go_simp
        exact hK _ _ (Ext.refl _ wk) rfl
      · -- slot 73
        intro ac wk hx hsame hdep K hK
        have d72 : ac.tmps.getD 72 undef = .string (strB p) := hdep 17 (by kernel_rfl)
        have e72 := d72
        rw [Array.getD_eq_getD_getElem?] at e72
        clear hsame hdep
        go_simp
        refine (HCK.out wk).mono ?_
        rintro e w' ⟨rfl, hx'⟩
        exact hK _ _ hx' rfl
      · -- slot 74
        intro ac wk hx hsame hdep K hK
        have p73 : (ac.tmps.getD 73 undef) = .int .i64 ck := hdep 18 (by kernel_rfl)
        have d73 := p73
        have e73 := d73
        rw [Array.getD_eq_getD_getElem?] at e73
        clear hsame hdep
        go_simp
        exact hK _ _ (Ext.refl _ wk) rfl
      · -- slot 75
        intro ac wk hx hsame hdep K hK
        have d0 : ac.tmps.getD 0 undef = .string (strB p) := hsame 0 (by kernel_rfl)
        have e0 := d0
        rw [Array.getD_eq_getD_getElem?] at e0
        clear hsame hdep
        go_simp
        exact hK _ _ (Ext.refl _ wk) rfl
      · -- slot 76
        intro ac wk hx hsame hdep K hK
        have d75 : ac.tmps.getD 75 undef = .string (strB p) := hdep 20 (by kernel_rfl)
        have e75 := d75
        rw [Array.getD_eq_getD_getElem?] at e75
        clear hsame hdep
        go_simp
        refine (HRR.out wk).mono ?_
        rintro e w' ⟨rfl, hx'⟩
        exact hK _ _ hx' rfl
      · -- slot 77
        intro ac wk hx hsame hdep K hK
        have d74 : ac.tmps.getD 74 undef = .bool rb := hdep 19 (by kernel_rfl)
        have e74 := d74
        rw [Array.getD_eq_getD_getElem?] at e74
        have p76 : (ac.tmps.getD 76 undef) = .bool rb := hdep 21 (by kernel_rfl)
        have d76 := p76
        have e76 := d76
        rw [Array.getD_eq_getD_getElem?] at e76
        clear hsame hdep
        go_simp
        exact hK _ _ (Ext.refl _ wk) rfl
      · -- slot 78
        intro ac wk hx hsame hdep K hK
        have d71 : ac.tmps.getD 71 undef = .bool true := hdep 16 (by kernel_rfl)
        have e71 := d71
        rw [Array.getD_eq_getD_getElem?] at e71
        have d77 : ac.tmps.getD 77 undef = .bool true := hdep 22 (by kernel_rfl)
        have e77 := d77
        rw [Array.getD_eq_getD_getElem?] at e77
        clear hsame hdep
        go_simp
        exact hK _ _ (Ext.refl _ wk) rfl
      · -- slot 79
        intro ac wk hx hsame hdep K hK
        have d78 : ac.tmps.getD 78 undef = .bool true := hdep 23 (by kernel_rfl)
        have e78 := d78
        rw [Array.getD_eq_getD_getElem?] at e78
        clear hsame hdep
        go_simp
        exact hK _ _ (Ext.refl _ wk) rfl
      · -- slot 80
        intro ac wk hx hsame hdep K hK
        have d0 : ac.tmps.getD 0 undef = .string (strB p) := hsame 0 (by kernel_rfl)
        have e0 := d0
        rw [Array.getD_eq_getD_getElem?] at e0
        clear hsame hdep
        go_simp
        exact hK _ _ (Ext.refl _ wk) rfl
      · -- slot 81
        intro ac wk hx hsame hdep K hK
        have d80 : ac.tmps.getD 80 undef = .string (strB p) := hdep 25 (by kernel_rfl)
        have e80 := d80
        rw [Array.getD_eq_getD_getElem?] at e80
        clear hsame hdep
        go_simp
        refine (HPA.out wk).mono ?_
        rintro e w' ⟨rfl, hx'⟩
        exact hK _ _ hx' rfl
      · -- slot 82
        intro ac wk hx hsame hdep K hK
        have d11 : ac.tmps.getD 11 undef = .string (strB pp) := hsame 11 (by kernel_rfl)
        have e11 := d11
        rw [Array.getD_eq_getD_getElem?] at e11
        clear hsame hdep
        go_simp
        exact hK _ _ (Ext.refl _ wk) rfl
      · -- slot 83
        intro ac wk hx hsame hdep K hK
        have p81 : (ac.tmps.getD 81 undef) = .string (strB pp) := hdep 26 (by kernel_rfl)
        have d81 := p81
        have e81 := d81
        rw [Array.getD_eq_getD_getElem?] at e81
        have d82 : ac.tmps.getD 82 undef = .string (strB pp) := hdep 27 (by kernel_rfl)
        have e82 := d82
        rw [Array.getD_eq_getD_getElem?] at e82
        clear hsame hdep
        go_simp
        exact hK _ _ (Ext.refl _ wk) rfl
      · -- slot 84
        intro ac wk hx hsame hdep K hK
        have d79 : ac.tmps.getD 79 undef = .bool true := hdep 24 (by kernel_rfl)
        have e79 := d79
        rw [Array.getD_eq_getD_getElem?] at e79
        have d83 : ac.tmps.getD 83 undef = .bool true := hdep 28 (by kernel_rfl)
        have e83 := d83
        rw [Array.getD_eq_getD_getElem?] at e83
        clear hsame hdep
        go_simp
        exact hK _ _ (Ext.refl _ wk) rfl
      · -- slot 85
        intro ac wk hx hsame hdep K hK
        have d84 : ac.tmps.getD 84 undef = .bool true := hdep 29 (by kernel_rfl)
        have e84 := d84
        rw [Array.getD_eq_getD_getElem?] at e84
        clear hsame hdep
        go_simp
        exact hK _ _ (Ext.refl _ wk) rfl
      · -- slot 86
        intro ac wk hx hsame hdep K hK
        have d0 : ac.tmps.getD 0 undef = .string (strB p) := hsame 0 (by kernel_rfl)
        have e0 := d0
        rw [Array.getD_eq_getD_getElem?] at e0
        clear hsame hdep
        go_simp
        exact hK _ _ (Ext.refl _ wk) rfl
      · -- slot 87
        intro ac wk hx hsame hdep K hK
        have d86 : ac.tmps.getD 86 undef = .string (strB p) := hdep 31 (by kernel_rfl)
        have e86 := d86
        rw [Array.getD_eq_getD_getElem?] at e86
        clear hsame hdep
        go_simp
        refine (HBA.out wk).mono ?_
        rintro e w' ⟨rfl, hx'⟩
        exact hK _ _ hx' rfl
      · -- slot 88
        intro ac wk hx hsame hdep K hK
        have d12 : ac.tmps.getD 12 undef = .string (strB bp) := hsame 12 (by kernel_rfl)
        have e12 := d12
        rw [Array.getD_eq_getD_getElem?] at e12
        clear hsame hdep
        go_simp
        exact hK _ _ (Ext.refl _ wk) rfl
      · -- slot 89
        intro ac wk hx hsame hdep K hK
        have p87 : (ac.tmps.getD 87 undef) = .string (strB bp) := hdep 32 (by kernel_rfl)
        have d87 := p87
        have e87 := d87
        rw [Array.getD_eq_getD_getElem?] at e87
        have d88 : ac.tmps.getD 88 undef = .string (strB bp) := hdep 33 (by kernel_rfl)
        have e88 := d88
        rw [Array.getD_eq_getD_getElem?] at e88
        clear hsame hdep
        go_simp
        exact hK _ _ (Ext.refl _ wk) rfl
      · -- slot 90
        intro ac wk hx hsame hdep K hK
        have d85 : ac.tmps.getD 85 undef = .bool true := hdep 30 (by kernel_rfl)
        have e85 := d85
        rw [Array.getD_eq_getD_getElem?] at e85
        have d89 : ac.tmps.getD 89 undef = .bool true := hdep 34 (by kernel_rfl)
        have e89 := d89
        rw [Array.getD_eq_getD_getElem?] at e89
        clear hsame hdep
        go_simp
        exact hK _ _ (Ext.refl _ wk) rfl
      · -- slot 91
        intro ac wk hx hsame hdep K hK
        have d90 : ac.tmps.getD 90 undef = .bool true := hdep 35 (by kernel_rfl)
        have e90 := d90
        rw [Array.getD_eq_getD_getElem?] at e90
        clear hsame hdep
        go_simp
        exact hK _ _ (Ext.refl _ wk) rfl
      · -- slot 92
        intro ac wk hx hsame hdep K hK
        have d0 : ac.tmps.getD 0 undef = .string (strB p) := hsame 0 (by kernel_rfl)
        have e0 := d0
        rw [Array.getD_eq_getD_getElem?] at e0
        clear hsame hdep
        go_simp
        exact hK _ _ (Ext.refl _ wk) rfl
      · -- slot 93
        intro ac wk hx hsame hdep K hK
        have d1 : ac.tmps.getD 1 undef = .string (strB q) := hsame 1 (by kernel_rfl)
        have e1 := d1
        rw [Array.getD_eq_getD_getElem?] at e1
        clear hsame hdep
        go_simp
        exact hK _ _ (Ext.refl _ wk) rfl
      · -- slot 94
        intro ac wk hx hsame hdep K hK
        have d92 : ac.tmps.getD 92 undef = .string (strB p) := hdep 37 (by kernel_rfl)
        have e92 := d92
        rw [Array.getD_eq_getD_getElem?] at e92
        have d93 : ac.tmps.getD 93 undef = .string (strB q) := hdep 38 (by kernel_rfl)
        have e93 := d93
        rw [Array.getD_eq_getD_getElem?] at e93
        clear hsame hdep
        go_simp
        refine (HJO.out wk).mono ?_
        rintro e w' ⟨rfl, hx'⟩
        exact hK _ _ hx' rfl
      · -- slot 95
        intro ac wk hx hsame hdep K hK
        have d13 : ac.tmps.getD 13 undef = .string (strB q) := hsame 13 (by kernel_rfl)
        have e13 := d13
        rw [Array.getD_eq_getD_getElem?] at e13
        clear hsame hdep
        go_simp
        exact hK _ _ (Ext.refl _ wk) rfl
      · -- slot 96
        intro ac wk hx hsame hdep K hK
        have p94 : (ac.tmps.getD 94 undef) = .string (strB q) := hdep 39 (by kernel_rfl)
        have d94 := p94
        have e94 := d94
        rw [Array.getD_eq_getD_getElem?] at e94
        have d95 : ac.tmps.getD 95 undef = .string (strB q) := hdep 40 (by kernel_rfl)
        have e95 := d95
        rw [Array.getD_eq_getD_getElem?] at e95
        clear hsame hdep
        go_simp
        exact hK _ _ (Ext.refl _ wk) rfl
      · -- slot 97
        intro ac wk hx hsame hdep K hK
        have d91 : ac.tmps.getD 91 undef = .bool true := hdep 36 (by kernel_rfl)
        have e91 := d91
        rw [Array.getD_eq_getD_getElem?] at e91
        have d96 : ac.tmps.getD 96 undef = .bool true := hdep 41 (by kernel_rfl)
        have e96 := d96
        rw [Array.getD_eq_getD_getElem?] at e96
        clear hsame hdep
        go_simp
        exact hK _ _ (Ext.refl _ wk) rfl
      · -- slot 98
        intro ac wk hx hsame hdep K hK
        have d97 : ac.tmps.getD 97 undef = .bool true := hdep 42 (by kernel_rfl)
        have e97 := d97
        rw [Array.getD_eq_getD_getElem?] at e97
        clear hsame hdep
        go_simp
        exact hK _ _ (Ext.refl _ wk) rfl
      · -- slot 99
        intro ac wk hx hsame hdep K hK
        have d0 : ac.tmps.getD 0 undef = .string (strB p) := hsame 0 (by kernel_rfl)
        have e0 := d0
        rw [Array.getD_eq_getD_getElem?] at e0
        clear hsame hdep
        go_simp
        exact hK _ _ (Ext.refl _ wk) rfl
      · -- slot 100
        intro ac wk hx hsame hdep K hK
        have d1 : ac.tmps.getD 1 undef = .string (strB q) := hsame 1 (by kernel_rfl)
        have e1 := d1
        rw [Array.getD_eq_getD_getElem?] at e1
        clear hsame hdep
        go_simp
        exact hK _ _ (Ext.refl _ wk) rfl
      · -- slot 101
        intro ac wk hx hsame hdep K hK
        have d99 : ac.tmps.getD 99 undef = .string (strB p) := hdep 44 (by kernel_rfl)
        have e99 := d99
        rw [Array.getD_eq_getD_getElem?] at e99
        have d100 : ac.tmps.getD 100 undef = .string (strB q) := hdep 45 (by kernel_rfl)
        have e100 := d100
        rw [Array.getD_eq_getD_getElem?] at e100
        clear hsame hdep
        go_simp
        refine (HLL.out wk).mono ?_
        rintro e w' ⟨rfl, hx'⟩
        exact hK _ _ hx' rfl
      · -- slot 102
        intro ac wk hx hsame hdep K hK
        have d0 : ac.tmps.getD 0 undef = .string (strB p) := hsame 0 (by kernel_rfl)
        have e0 := d0
        rw [Array.getD_eq_getD_getElem?] at e0
        clear hsame hdep
        go_simp
        exact hK _ _ (Ext.refl _ wk) rfl
      · -- slot 103
        intro ac wk hx hsame hdep K hK
        have d1 : ac.tmps.getD 1 undef = .string (strB q) := hsame 1 (by kernel_rfl)
        have e1 := d1
        rw [Array.getD_eq_getD_getElem?] at e1
        clear hsame hdep
        go_simp
        exact hK _ _ (Ext.refl _ wk) rfl
      · -- slot 104
        intro ac wk hx hsame hdep K hK
        have d102 : ac.tmps.getD 102 undef = .string (strB p) := hdep 47 (by kernel_rfl)
        have e102 := d102
        rw [Array.getD_eq_getD_getElem?] at e102
        have d103 : ac.tmps.getD 103 undef = .string (strB q) := hdep 48 (by kernel_rfl)
        have e103 := d103
        rw [Array.getD_eq_getD_getElem?] at e103
        clear hsame hdep
        go_simp
        refine (HRL.out wk).mono ?_
        rintro e w' ⟨rfl, hx'⟩
        exact hK _ _ hx' rfl
      · -- slot 105
        intro ac wk hx hsame hdep K hK
        have p101 : (ac.tmps.getD 101 undef) = .bool lb := hdep 46 (by kernel_rfl)
        have d101 := p101
        have e101 := d101
        rw [Array.getD_eq_getD_getElem?] at e101
        have p104 : (ac.tmps.getD 104 undef) = .bool lb := hdep 49 (by kernel_rfl)
        have d104 := p104
        have e104 := d104
        rw [Array.getD_eq_getD_getElem?] at e104
        clear hsame hdep
        go_simp
        exact hK _ _ (Ext.refl _ wk) rfl
      · -- slot 106
        intro ac wk hx hsame hdep K hK
        have d98 : ac.tmps.getD 98 undef = .bool true := hdep 43 (by kernel_rfl)
        have e98 := d98
        rw [Array.getD_eq_getD_getElem?] at e98
        have d105 : ac.tmps.getD 105 undef = .bool true := hdep 50 (by kernel_rfl)
        have e105 := d105
        rw [Array.getD_eq_getD_getElem?] at e105
        clear hsame hdep
        go_simp
        exact hK _ _ (Ext.refl _ wk) rfl
      · -- slot 107
        intro ac wk hx hsame hdep K hK
        have d106 : ac.tmps.getD 106 undef = .bool true := hdep 51 (by kernel_rfl)
        have e106 := d106
        rw [Array.getD_eq_getD_getElem?] at e106
        clear hsame hdep
        go_simp
        exact hK _ _ (Ext.refl _ wk) rfl
      · -- slot 108
        intro ac wk hx hsame hdep K hK
        have d0 : ac.tmps.getD 0 undef = .string (strB p) := hsame 0 (by kernel_rfl)
        have e0 := d0
        rw [Array.getD_eq_getD_getElem?] at e0
        clear hsame hdep
        go_simp
        exact hK _ _ (Ext.refl _ wk) rfl
      · -- slot 109
        intro ac wk hx hsame hdep K hK
        have d1 : ac.tmps.getD 1 undef = .string (strB q) := hsame 1 (by kernel_rfl)
        have e1 := d1
        rw [Array.getD_eq_getD_getElem?] at e1
        clear hsame hdep
        go_simp
        exact hK _ _ (Ext.refl _ wk) rfl
      · -- slot 110
        intro ac wk hx hsame hdep K hK
        have d108 : ac.tmps.getD 108 undef = .string (strB p) := hdep 53 (by kernel_rfl)
        have e108 := d108
        rw [Array.getD_eq_getD_getElem?] at e108
        have d109 : ac.tmps.getD 109 undef = .string (strB q) := hdep 54 (by kernel_rfl)
        have e109 := d109
        rw [Array.getD_eq_getD_getElem?] at e109
        clear hsame hdep
        go_simp
        refine (HWW.out wk).mono ?_
        rintro e w' ⟨rfl, hx'⟩
        exact hK _ _ hx' rfl
      · -- slot 111
        intro ac wk hx hsame hdep K hK
        have d0 : ac.tmps.getD 0 undef = .string (strB p) := hsame 0 (by kernel_rfl)
        have e0 := d0
        rw [Array.getD_eq_getD_getElem?] at e0
        clear hsame hdep
        go_simp
        exact hK _ _ (Ext.refl _ wk) rfl
      · -- slot 112
        intro ac wk hx hsame hdep K hK
        have d1 : ac.tmps.getD 1 undef = .string (strB q) := hsame 1 (by kernel_rfl)
        have e1 := d1
        rw [Array.getD_eq_getD_getElem?] at e1
        clear hsame hdep
        go_simp
        exact hK _ _ (Ext.refl _ wk) rfl
      · -- slot 113
        intro ac wk hx hsame hdep K hK
        have d111 : ac.tmps.getD 111 undef = .string (strB p) := hdep 56 (by kernel_rfl)
        have e111 := d111
        rw [Array.getD_eq_getD_getElem?] at e111
        have d112 : ac.tmps.getD 112 undef = .string (strB q) := hdep 57 (by kernel_rfl)
        have e112 := d112
        rw [Array.getD_eq_getD_getElem?] at e112
        clear hsame hdep
        go_simp
        refine (HRW.out wk).mono ?_
        rintro e w' ⟨rfl, hx'⟩
        exact hK _ _ hx' rfl
      · -- slot 114
        intro ac wk hx hsame hdep K hK
        have p110 : (ac.tmps.getD 110 undef) = .bool wb := hdep 55 (by kernel_rfl)
        have d110 := p110
        have e110 := d110
        rw [Array.getD_eq_getD_getElem?] at e110
        have p113 : (ac.tmps.getD 113 undef) = .bool wb := hdep 58 (by kernel_rfl)
        have d113 := p113
        have e113 := d113
        rw [Array.getD_eq_getD_getElem?] at e113
        clear hsame hdep
        go_simp
        exact hK _ _ (Ext.refl _ wk) rfl
      · -- slot 115
        intro ac wk hx hsame hdep K hK
        have d107 : ac.tmps.getD 107 undef = .bool true := hdep 52 (by kernel_rfl)
        have e107 := d107
        rw [Array.getD_eq_getD_getElem?] at e107
        have d114 : ac.tmps.getD 114 undef = .bool true := hdep 59 (by kernel_rfl)
        have e114 := d114
        rw [Array.getD_eq_getD_getElem?] at e114
        clear hsame hdep
        go_simp
        exact hK _ _ (Ext.refl _ wk) rfl
      · -- slot 116
        intro ac wk hx hsame hdep K hK
        have d115 : ac.tmps.getD 115 undef = .bool true := hdep 60 (by kernel_rfl)
        have e115 := d115
        rw [Array.getD_eq_getD_getElem?] at e115
        clear hsame hdep
        go_simp
        exact hK _ _ (Ext.refl _ wk) rfl
      · -- slot 117
        intro ac wk hx hsame hdep K hK
        have d0 : ac.tmps.getD 0 undef = .string (strB p) := hsame 0 (by kernel_rfl)
        have e0 := d0
        rw [Array.getD_eq_getD_getElem?] at e0
        clear hsame hdep
        go_simp
        exact hK _ _ (Ext.refl _ wk) rfl
      · -- slot 118
        intro ac wk hx hsame hdep K hK
        have d117 : ac.tmps.getD 117 undef = .string (strB p) := hdep 62 (by kernel_rfl)
        have e117 := d117
        rw [Array.getD_eq_getD_getElem?] at e117
        clear hsame hdep
        go_simp
        refine (HP1.out wk).mono ?_
        rintro e w' ⟨v, rfl, hv, hx'⟩
        exact hK _ _ hx' hv
      · -- slot 119
        intro ac wk hx hsame hdep K hK
        have d14 : ac.tmps.getD 14 undef = .slice (some ⟨vb, vo, none⟩) N vc := hsame 14 (by kernel_rfl)
        have e14 := d14
        rw [Array.getD_eq_getD_getElem?] at e14
        clear hsame hdep
        go_simp
        exact hK _ _ (Ext.refl _ wk) rfl
      · -- slot 120
        intro ac wk hx hsame hdep K hK
        have p118 : IsStrs wk L (ac.tmps.getD 118 undef) := hdep 63 (by kernel_rfl)
        obtain ⟨v118, d118, q118⟩ : ∃ u, ac.tmps.getD 118 undef = u ∧ IsStrs wk L u := ⟨_, rfl, p118⟩
        have e118 := d118
        rw [Array.getD_eq_getD_getElem?] at e118
        have d119 : ac.tmps.getD 119 undef = .slice (some ⟨vb, vo, none⟩) N vc := hdep 64 (by kernel_rfl)
        have e119 := d119
        rw [Array.getD_eq_getD_getElem?] at e119
        clear hsame hdep
        go_simp
        refine (HSS.out L _ _ wk q118 (HV.out.ext0 (Dr.extN hx))).mono ?_
        rintro e w' ⟨rfl, hx'⟩
        exact hK _ _ hx' rfl
      · -- slot 121
        intro ac wk hx hsame hdep K hK
        have d116 : ac.tmps.getD 116 undef = .bool true := hdep 61 (by kernel_rfl)
        have e116 := d116
        rw [Array.getD_eq_getD_getElem?] at e116
        have p120 : (ac.tmps.getD 120 undef) = .bool true := hdep 65 (by kernel_rfl)
        have d120 := p120
        have e120 := d120
        rw [Array.getD_eq_getD_getElem?] at e120
        clear hsame hdep
        go_simp
        exact hK _ _ (Ext.refl _ wk) rfl
      · -- slot 122
        intro ac wk hx hsame hdep K hK
        have d121 : ac.tmps.getD 121 undef = .bool true := hdep 66 (by kernel_rfl)
        have e121 := d121
        rw [Array.getD_eq_getD_getElem?] at e121
        clear hsame hdep
        go_simp
        exact hK _ _ (Ext.refl _ wk) rfl
      · -- slot 123
        intro ac wk hx hsame hdep K hK
        have d0 : ac.tmps.getD 0 undef = .string (strB p) := hsame 0 (by kernel_rfl)
        have e0 := d0
        rw [Array.getD_eq_getD_getElem?] at e0
        clear hsame hdep
        go_simp
        exact hK _ _ (Ext.refl _ wk) rfl
      · -- slot 124
        intro ac wk hx hsame hdep K hK
        have d2 : ac.tmps.getD 2 undef = .int .i64 most := hsame 2 (by kernel_rfl)
        have e2 := d2
        rw [Array.getD_eq_getD_getElem?] at e2
        clear hsame hdep
        go_simp
        exact hK _ _ (Ext.refl _ wk) rfl
      · -- slot 125
        intro ac wk hx hsame hdep K hK
        have d124 : ac.tmps.getD 124 undef = .int .i64 most := hdep 69 (by kernel_rfl)
        have e124 := d124
        rw [Array.getD_eq_getD_getElem?] at e124
        clear hsame hdep
        go_simp
        exact hK _ _ (Ext.refl _ wk) rfl
      · -- slot 126
        intro ac wk hx hsame hdep K hK
        have d123 : ac.tmps.getD 123 undef = .string (strB p) := hdep 68 (by kernel_rfl)
        have e123 := d123
        rw [Array.getD_eq_getD_getElem?] at e123
        have d125 : ac.tmps.getD 125 undef = .int .i64 (r : Int) := hdep 70 (by kernel_rfl)
        have e125 := d125
        rw [Array.getD_eq_getD_getElem?] at e125
        clear hsame hdep
        go_simp
        refine (HP2.out wk).mono ?_
        rintro e w' ⟨v, rfl, hv, hx'⟩
        exact hK _ _ hx' hv
      · -- slot 127
        intro ac wk hx hsame hdep K hK
        have d14 : ac.tmps.getD 14 undef = .slice (some ⟨vb, vo, none⟩) N vc := hsame 14 (by kernel_rfl)
        have e14 := d14
        rw [Array.getD_eq_getD_getElem?] at e14
        clear hsame hdep
        go_simp
        exact hK _ _ (Ext.refl _ wk) rfl
      · -- slot 128
        intro ac wk hx hsame hdep K hK
        have d15 : ac.tmps.getD 15 undef = .int .i64 (s : Int) := hsame 15 (by kernel_rfl)
        have e15 := d15
        rw [Array.getD_eq_getD_getElem?] at e15
        clear hsame hdep
        go_simp
        exact hK _ _ (Ext.refl _ wk) rfl
      · -- slot 129
        intro ac wk hx hsame hdep K hK
        have d127 : ac.tmps.getD 127 undef = .slice (some ⟨vb, vo, none⟩) N vc := hdep 72 (by kernel_rfl)
        have e127 := d127
        rw [Array.getD_eq_getD_getElem?] at e127
        have d128 : ac.tmps.getD 128 undef = .int .i64 (s : Int) := hdep 73 (by kernel_rfl)
        have e128 := d128
        rw [Array.getD_eq_getD_getElem?] at e128
        clear hsame hdep
        go_simp
        exact hK _ _ (Ext.refl _ wk) rfl
      · -- slot 130
        intro ac wk hx hsame hdep K hK
        have p126 : IsStrs wk (L.take s) (ac.tmps.getD 126 undef) := hdep 71 (by kernel_rfl)
        obtain ⟨v126, d126, q126⟩ : ∃ u, ac.tmps.getD 126 undef = u ∧ IsStrs wk (L.take s) u := ⟨_, rfl, p126⟩
        have e126 := d126
        rw [Array.getD_eq_getD_getElem?] at e126
        have d129 : ac.tmps.getD 129 undef = .slice (some ⟨vb, vo, none⟩) s vc := hdep 74 (by kernel_rfl)
        have e129 := d129
        rw [Array.getD_eq_getD_getElem?] at e129
        clear hsame hdep
        go_simp
        refine (HSS.out (L.take s) _ _ wk q126 (HVT.out.ext0 (Dr.extN hx))).mono ?_
        rintro e w' ⟨rfl, hx'⟩
        exact hK _ _ hx' rfl
      · -- slot 131
        intro ac wk hx hsame hdep K hK
        have d122 : ac.tmps.getD 122 undef = .bool true := hdep 67 (by kernel_rfl)
        have e122 := d122
        rw [Array.getD_eq_getD_getElem?] at e122
        have p130 : (ac.tmps.getD 130 undef) = .bool true := hdep 75 (by kernel_rfl)
        have d130 := p130
        have e130 := d130
        rw [Array.getD_eq_getD_getElem?] at e130
        clear hsame hdep
        go_simp
        exact hK _ _ (Ext.refl _ wk) rfl
      · intro ac wk hx hdf hsz hsame hvals
        have f0 : ac.tmps.getD 0 undef = .string (strB p) := hsame 0 (by kernel_rfl)
        have f1 : ac.tmps.getD 1 undef = .string (strB q) := hsame 1 (by kernel_rfl)
        have f2 : ac.tmps.getD 2 undef = .int .i64 most := hsame 2 (by kernel_rfl)
        obtain ⟨u3, f3⟩ : ∃ u, ac.tmps.getD 3 undef = u := ⟨_, rfl⟩
        obtain ⟨u4, f4⟩ : ∃ u, ac.tmps.getD 4 undef = u := ⟨_, rfl⟩
        obtain ⟨u5, f5⟩ : ∃ u, ac.tmps.getD 5 undef = u := ⟨_, rfl⟩
        obtain ⟨u6, f6⟩ : ∃ u, ac.tmps.getD 6 undef = u := ⟨_, rfl⟩
        have f7 : ac.tmps.getD 7 undef = .string ⟨#[]⟩ := hsame 7 (by kernel_rfl)
        have f8 : ac.tmps.getD 8 undef = .int .i64 38 := hsame 8 (by kernel_rfl)
        have f9 : ac.tmps.getD 9 undef = .string ⟨#[]⟩ := hsame 9 (by kernel_rfl)
        have f10 : ac.tmps.getD 10 undef = .bool false := hsame 10 (by kernel_rfl)
        have f11 : ac.tmps.getD 11 undef = .string (strB pp) := hsame 11 (by kernel_rfl)
        have f12 : ac.tmps.getD 12 undef = .string (strB bp) := hsame 12 (by kernel_rfl)
        have f13 : ac.tmps.getD 13 undef = .string (strB q) := hsame 13 (by kernel_rfl)
        have f14 : ac.tmps.getD 14 undef = .slice (some ⟨vb, vo, none⟩) N vc := hsame 14 (by kernel_rfl)
        have f15 : ac.tmps.getD 15 undef = .int .i64 (s : Int) := hsame 15 (by kernel_rfl)
        obtain ⟨u16, f16⟩ : ∃ u, ac.tmps.getD 16 undef = u := ⟨_, rfl⟩
        obtain ⟨u17, f17⟩ : ∃ u, ac.tmps.getD 17 undef = u := ⟨_, rfl⟩
        obtain ⟨u18, f18⟩ : ∃ u, ac.tmps.getD 18 undef = u := ⟨_, rfl⟩
        obtain ⟨u19, f19⟩ : ∃ u, ac.tmps.getD 19 undef = u := ⟨_, rfl⟩
        obtain ⟨u20, f20⟩ : ∃ u, ac.tmps.getD 20 undef = u := ⟨_, rfl⟩
        obtain ⟨u21, f21⟩ : ∃ u, ac.tmps.getD 21 undef = u := ⟨_, rfl⟩
        obtain ⟨u22, f22⟩ : ∃ u, ac.tmps.getD 22 undef = u := ⟨_, rfl⟩
        obtain ⟨u23, f23⟩ : ∃ u, ac.tmps.getD 23 undef = u := ⟨_, rfl⟩
        obtain ⟨u24, f24⟩ : ∃ u, ac.tmps.getD 24 undef = u := ⟨_, rfl⟩
        obtain ⟨u25, f25⟩ : ∃ u, ac.tmps.getD 25 undef = u := ⟨_, rfl⟩
        obtain ⟨u26, f26⟩ : ∃ u, ac.tmps.getD 26 undef = u := ⟨_, rfl⟩
        obtain ⟨u27, f27⟩ : ∃ u, ac.tmps.getD 27 undef = u := ⟨_, rfl⟩
        obtain ⟨u28, f28⟩ : ∃ u, ac.tmps.getD 28 undef = u := ⟨_, rfl⟩
        obtain ⟨u29, f29⟩ : ∃ u, ac.tmps.getD 29 undef = u := ⟨_, rfl⟩
        obtain ⟨u30, f30⟩ : ∃ u, ac.tmps.getD 30 undef = u := ⟨_, rfl⟩
        obtain ⟨u31, f31⟩ : ∃ u, ac.tmps.getD 31 undef = u := ⟨_, rfl⟩
        obtain ⟨u32, f32⟩ : ∃ u, ac.tmps.getD 32 undef = u := ⟨_, rfl⟩
        obtain ⟨u33, f33⟩ : ∃ u, ac.tmps.getD 33 undef = u := ⟨_, rfl⟩
        obtain ⟨u34, f34⟩ : ∃ u, ac.tmps.getD 34 undef = u := ⟨_, rfl⟩
        obtain ⟨u35, f35⟩ : ∃ u, ac.tmps.getD 35 undef = u := ⟨_, rfl⟩
        obtain ⟨u36, f36⟩ : ∃ u, ac.tmps.getD 36 undef = u := ⟨_, rfl⟩
        obtain ⟨u37, f37⟩ : ∃ u, ac.tmps.getD 37 undef = u := ⟨_, rfl⟩
        obtain ⟨u38, f38⟩ : ∃ u, ac.tmps.getD 38 undef = u := ⟨_, rfl⟩
        obtain ⟨u39, f39⟩ : ∃ u, ac.tmps.getD 39 undef = u := ⟨_, rfl⟩
        obtain ⟨u40, f40⟩ : ∃ u, ac.tmps.getD 40 undef = u := ⟨_, rfl⟩
        obtain ⟨u41, f41⟩ : ∃ u, ac.tmps.getD 41 undef = u := ⟨_, rfl⟩
        obtain ⟨u42, f42⟩ : ∃ u, ac.tmps.getD 42 undef = u := ⟨_, rfl⟩
        obtain ⟨u43, f43⟩ : ∃ u, ac.tmps.getD 43 undef = u := ⟨_, rfl⟩
        obtain ⟨u44, f44⟩ : ∃ u, ac.tmps.getD 44 undef = u := ⟨_, rfl⟩
        obtain ⟨u45, f45⟩ : ∃ u, ac.tmps.getD 45 undef = u := ⟨_, rfl⟩
        obtain ⟨u46, f46⟩ : ∃ u, ac.tmps.getD 46 undef = u := ⟨_, rfl⟩
        obtain ⟨u47, f47⟩ : ∃ u, ac.tmps.getD 47 undef = u := ⟨_, rfl⟩
        obtain ⟨u48, f48⟩ : ∃ u, ac.tmps.getD 48 undef = u := ⟨_, rfl⟩
        obtain ⟨u49, f49⟩ : ∃ u, ac.tmps.getD 49 undef = u := ⟨_, rfl⟩
        obtain ⟨u50, f50⟩ : ∃ u, ac.tmps.getD 50 undef = u := ⟨_, rfl⟩
        obtain ⟨u51, f51⟩ : ∃ u, ac.tmps.getD 51 undef = u := ⟨_, rfl⟩
        obtain ⟨u52, f52⟩ : ∃ u, ac.tmps.getD 52 undef = u := ⟨_, rfl⟩
        obtain ⟨u53, f53⟩ : ∃ u, ac.tmps.getD 53 undef = u := ⟨_, rfl⟩
        obtain ⟨u54, f54⟩ : ∃ u, ac.tmps.getD 54 undef = u := ⟨_, rfl⟩
        have f55 : ac.tmps.getD 55 undef = .string ⟨#[]⟩ := hvals 0 (by decide)
        have f56 : ac.tmps.getD 56 undef = .string ⟨#[]⟩ := hvals 1 (by decide)
        have f57 : ac.tmps.getD 57 undef = .bool true := hvals 2 (by decide)
        have f58 : ac.tmps.getD 58 undef = .bool true := hvals 3 (by decide)
        have f59 : ac.tmps.getD 59 undef = .int .i64 38 := hvals 4 (by decide)
        have f60 : ac.tmps.getD 60 undef = .bool false := hvals 5 (by decide)
        have f61 : ac.tmps.getD 61 undef = .bool false := hvals 6 (by decide)
        have f62 : ac.tmps.getD 62 undef = .bool true := hvals 7 (by decide)
        have f63 : ac.tmps.getD 63 undef = .bool true := hvals 8 (by decide)
        have f64 : ac.tmps.getD 64 undef = .bool true := hvals 9 (by decide)
        have f65 : ac.tmps.getD 65 undef = .bool false := hvals 10 (by decide)
        have f66 : ac.tmps.getD 66 undef = .bool false := hvals 11 (by decide)
        have f67 : ac.tmps.getD 67 undef = .int .i64 38 := hvals 12 (by decide)
        have f68 : ac.tmps.getD 68 undef = .bool true := hvals 13 (by decide)
        have f69 : ac.tmps.getD 69 undef = .bool true := hvals 14 (by decide)
        have f70 : ac.tmps.getD 70 undef = .bool true := hvals 15 (by decide)
        have f71 : ac.tmps.getD 71 undef = .bool true := hvals 16 (by decide)
        have f72 : ac.tmps.getD 72 undef = .string (strB p) := hvals 17 (by decide)
        obtain ⟨u73, f73⟩ : ∃ u, ac.tmps.getD 73 undef = u := ⟨_, rfl⟩
        have f74 : ac.tmps.getD 74 undef = .bool rb := hvals 19 (by decide)
        have f75 : ac.tmps.getD 75 undef = .string (strB p) := hvals 20 (by decide)
        obtain ⟨u76, f76⟩ : ∃ u, ac.tmps.getD 76 undef = u := ⟨_, rfl⟩
        have f77 : ac.tmps.getD 77 undef = .bool true := hvals 22 (by decide)
        have f78 : ac.tmps.getD 78 undef = .bool true := hvals 23 (by decide)
        have f79 : ac.tmps.getD 79 undef = .bool true := hvals 24 (by decide)
        have f80 : ac.tmps.getD 80 undef = .string (strB p) := hvals 25 (by decide)
        obtain ⟨u81, f81⟩ : ∃ u, ac.tmps.getD 81 undef = u := ⟨_, rfl⟩
        have f82 : ac.tmps.getD 82 undef = .string (strB pp) := hvals 27 (by decide)
        have f83 : ac.tmps.getD 83 undef = .bool true := hvals 28 (by decide)
        have f84 : ac.tmps.getD 84 undef = .bool true := hvals 29 (by decide)
        have f85 : ac.tmps.getD 85 undef = .bool true := hvals 30 (by decide)
        have f86 : ac.tmps.getD 86 undef = .string (strB p) := hvals 31 (by decide)
        obtain ⟨u87, f87⟩ : ∃ u, ac.tmps.getD 87 undef = u := ⟨_, rfl⟩
        have f88 : ac.tmps.getD 88 undef = .string (strB bp) := hvals 33 (by decide)
        have f89 : ac.tmps.getD 89 undef = .bool true := hvals 34 (by decide)
        have f90 : ac.tmps.getD 90 undef = .bool true := hvals 35 (by decide)
        have f91 : ac.tmps.getD 91 undef = .bool true := hvals 36 (by decide)
        have f92 : ac.tmps.getD 92 undef = .string (strB p) := hvals 37 (by decide)
        have f93 : ac.tmps.getD 93 undef = .string (strB q) := hvals 38 (by decide)
        obtain ⟨u94, f94⟩ : ∃ u, ac.tmps.getD 94 undef = u := ⟨_, rfl⟩
        have f95 : ac.tmps.getD 95 undef = .string (strB q) := hvals 40 (by decide)
        have f96 : ac.tmps.getD 96 undef = .bool true := hvals 41 (by decide)
        have f97 : ac.tmps.getD 97 undef = .bool true := hvals 42 (by decide)
        have f98 : ac.tmps.getD 98 undef = .bool true := hvals 43 (by decide)
        have f99 : ac.tmps.getD 99 undef = .string (strB p) := hvals 44 (by decide)
        have f100 : ac.tmps.getD 100 undef = .string (strB q) := hvals 45 (by decide)
        obtain ⟨u101, f101⟩ : ∃ u, ac.tmps.getD 101 undef = u := ⟨_, rfl⟩
        have f102 : ac.tmps.getD 102 undef = .string (strB p) := hvals 47 (by decide)
        have f103 : ac.tmps.getD 103 undef = .string (strB q) := hvals 48 (by decide)
        obtain ⟨u104, f104⟩ : ∃ u, ac.tmps.getD 104 undef = u := ⟨_, rfl⟩
        have f105 : ac.tmps.getD 105 undef = .bool true := hvals 50 (by decide)
        have f106 : ac.tmps.getD 106 undef = .bool true := hvals 51 (by decide)
        have f107 : ac.tmps.getD 107 undef = .bool true := hvals 52 (by decide)
        have f108 : ac.tmps.getD 108 undef = .string (strB p) := hvals 53 (by decide)
        have f109 : ac.tmps.getD 109 undef = .string (strB q) := hvals 54 (by decide)
        obtain ⟨u110, f110⟩ : ∃ u, ac.tmps.getD 110 undef = u := ⟨_, rfl⟩
        have f111 : ac.tmps.getD 111 undef = .string (strB p) := hvals 56 (by decide)
        have f112 : ac.tmps.getD 112 undef = .string (strB q) := hvals 57 (by decide)
        obtain ⟨u113, f113⟩ : ∃ u, ac.tmps.getD 113 undef = u := ⟨_, rfl⟩
        have f114 : ac.tmps.getD 114 undef = .bool true := hvals 59 (by decide)
        have f115 : ac.tmps.getD 115 undef = .bool true := hvals 60 (by decide)
        have f116 : ac.tmps.getD 116 undef = .bool true := hvals 61 (by decide)
        have f117 : ac.tmps.getD 117 undef = .string (strB p) := hvals 62 (by decide)
        obtain ⟨u118, f118⟩ : ∃ u, ac.tmps.getD 118 undef = u := ⟨_, rfl⟩
        have f119 : ac.tmps.getD 119 undef = .slice (some ⟨vb, vo, none⟩) N vc := hvals 64 (by decide)
        obtain ⟨u120, f120⟩ : ∃ u, ac.tmps.getD 120 undef = u := ⟨_, rfl⟩
        have f121 : ac.tmps.getD 121 undef = .bool true := hvals 66 (by decide)
        have f122 : ac.tmps.getD 122 undef = .bool true := hvals 67 (by decide)
        have f123 : ac.tmps.getD 123 undef = .string (strB p) := hvals 68 (by decide)
        have f124 : ac.tmps.getD 124 undef = .int .i64 most := hvals 69 (by decide)
        have f125 : ac.tmps.getD 125 undef = .int .i64 (r : Int) := hvals 70 (by decide)
        obtain ⟨u126, f126⟩ : ∃ u, ac.tmps.getD 126 undef = u := ⟨_, rfl⟩
        have f127 : ac.tmps.getD 127 undef = .slice (some ⟨vb, vo, none⟩) N vc := hvals 72 (by decide)
        have f128 : ac.tmps.getD 128 undef = .int .i64 (s : Int) := hvals 73 (by decide)
        have f129 : ac.tmps.getD 129 undef = .slice (some ⟨vb, vo, none⟩) s vc := hvals 74 (by decide)
        obtain ⟨u130, f130⟩ : ∃ u, ac.tmps.getD 130 undef = u := ⟨_, rfl⟩
        have f131 : ac.tmps.getD 131 undef = .bool true := hvals 76 (by decide)
        have hlit : ac = ⟨#[.string (strB p), .string (strB q), .int .i64 most, u3, u4, u5, u6, .string ⟨#[]⟩, .int .i64 38, .string ⟨#[]⟩, .bool false, .string (strB pp), .string (strB bp), .string (strB q), .slice (some ⟨vb, vo, none⟩) N vc, .int .i64 (s : Int), u16, u17, u18, u19, u20, u21, u22, u23, u24, u25, u26, u27, u28, u29, u30, u31, u32, u33, u34, u35, u36, u37, u38, u39, u40, u41, u42, u43, u44, u45, u46, u47, u48, u49, u50, u51, u52, u53, u54, .string ⟨#[]⟩, .string ⟨#[]⟩, .bool true, .bool true, .int .i64 38, .bool false, .bool false, .bool true, .bool true, .bool true, .bool false, .bool false, .int .i64 38, .bool true, .bool true, .bool true, .bool true, .string (strB p), u73, .bool rb, .string (strB p), u76, .bool true, .bool true, .bool true, .string (strB p), u81, .string (strB pp), .bool true, .bool true, .bool true, .string (strB p), u87, .string (strB bp), .bool true, .bool true, .bool true, .string (strB p), .string (strB q), u94, .string (strB q), .bool true, .bool true, .bool true, .string (strB p), .string (strB q), u101, .string (strB p), .string (strB q), u104, .bool true, .bool true, .bool true, .string (strB p), .string (strB q), u110, .string (strB p), .string (strB q), u113, .bool true, .bool true, .bool true, .string (strB p), u118, .slice (some ⟨vb, vo, none⟩) N vc, u120, .bool true, .bool true, .string (strB p), .int .i64 most, .int .i64 (r : Int), u126, .slice (some ⟨vb, vo, none⟩) N vc, .int .i64 (s : Int), .slice (some ⟨vb, vo, none⟩) s vc, u130, .bool true], []⟩ := by
          refine (act_lit hsz hdf).trans ?_
          rw [show List.range _ = [0, 1, 2, 3, 4, 5, 6, 7, 8, 9, 10, 11, 12, 13, 14, 15, 16, 17, 18, 19, 20, 21, 22, 23, 24, 25, 26, 27, 28, 29, 30, 31, 32, 33, 34, 35, 36, 37, 38, 39, 40, 41, 42, 43, 44, 45, 46, 47, 48, 49, 50, 51, 52, 53, 54, 55, 56, 57, 58, 59, 60, 61, 62, 63, 64, 65, 66, 67, 68, 69, 70, 71, 72, 73, 74, 75, 76, 77, 78, 79, 80, 81, 82, 83, 84, 85, 86, 87, 88, 89, 90, 91, 92, 93, 94, 95, 96, 97, 98, 99, 100, 101, 102, 103, 104, 105, 106, 107, 108, 109, 110, 111, 112, 113, 114, 115, 116, 117, 118, 119, 120, 121, 122, 123, 124, 125, 126, 127, 128, 129, 130, 131] from rfl]
          simp only [List.map_cons, List.map_nil, f0, f1, f2, f3, f4, f5, f6, f7, f8, f9, f10, f11, f12, f13, f14, f15, f16, f17, f18, f19, f20, f21, f22, f23, f24, f25, f26, f27, f28, f29, f30, f31, f32, f33, f34, f35, f36, f37, f38, f39, f40, f41, f42, f43, f44, f45, f46, f47, f48, f49, f50, f51, f52, f53, f54, f55, f56, f57, f58, f59, f60, f61, f62, f63, f64, f65, f66, f67, f68, f69, f70, f71, f72, f73, f74, f75, f76, f77, f78, f79, f80, f81, f82, f83, f84, f85, f86, f87, f88, f89, f90, f91, f92, f93, f94, f95, f96, f97, f98, f99, f100, f101, f102, f103, f104, f105, f106, f107, f108, f109, f110, f111, f112, f113, f114, f115, f116, f117, f118, f119, f120, f121, f122, f123, f124, f125, f126, f127, f128, f129, f130, f131]
        clear hvals hsame hdf hsz f0 f1 f2 f3 f4 f5 f6 f7 f8 f9 f10 f11 f12 f13 f14 f15 f16 f17 f18 f19 f20 f21 f22 f23 f24 f25 f26 f27 f28 f29 f30 f31 f32 f33 f34 f35 f36 f37 f38 f39 f40 f41 f42 f43 f44 f45 f46 f47 f48 f49 f50 f51 f52 f53 f54 f55 f56 f57 f58 f59 f60 f61 f62 f63 f64 f65 f66 f67 f68 f69 f70 f71 f72 f73 f74 f75 f76 f77 f78 f79 f80 f81 f82 f83 f84 f85 f86 f87 f88 f89 f90 f91 f92 f93 f94 f95 f96 f97 f98 f99 f100 f101 f102 f103 f104 f105 f106 f107 f108 f109 f110 f111 f112 f113 f114 f115 f116 f117 f118 f119 f120 f121 f122 f123 f124 f125 f126 f127 f128 f129 f130 f131
        subst hlit
        simp only [List.drop_succ_cons, List.drop_zero]
        go_wp2_with fail
        go_ret
        exact ⟨rfl, HE.out.trans' hx⟩
    · rw [hc3''] at HJO
      go_enter Tryd.func3, Tryd.ntmps3
      go_wp2_with fail
      refine (alive_any w).mono ?_
      rintro e w1 ⟨rfl, hE1⟩
      have HE := Lib.hid hE1
      clear hE1
      dsimp only
      go_wp2_with (first | (go_at_call 9; refine (HCL.out _).mono ?_; rintro e w' ⟨rfl, hE'⟩; replace HE := Lib.hid (HE.out.trans' hE'); clear hE') | (go_at_call 10; refine (HRC.out _).mono ?_; rintro e w' ⟨rfl, hE'⟩; replace HE := Lib.hid (HE.out.trans' hE'); clear hE') | (go_at_call 11; refine (HRU.out _).mono ?_; rintro e w' ⟨rfl, hE'⟩; replace HE := Lib.hid (HE.out.trans' hE'); clear hE') | (go_at_call 12; refine (HRP.out _).mono ?_; rintro e w' ⟨vb, vo, vc, rfl, hvc, hvc2, hv, hE'⟩; replace HE := Lib.hid (HE.out.trans' hE'); have HV := Lib.hid hv; clear hE' hv))
      have hsc : (s : Int) ≤ vc := by omega
      have HVT := Lib.hid (strs_take HV.out HSN.out)
      refine wp_region_headG 77 (fun i => !([] : List Nat).contains i) No (TellsV3 p q [] pp bp J rb lb wb ck most L vb vo N vc r s) (by kernel_rfl) (by kernel_rfl) (by kernel_rfl) (TellsV3_ext p q [] pp bp J rb lb wb ck most L vb vo N vc r s) (HeadStepsG.cons (by rfl) (by exact trivial) ?_ (HeadStepsG.cons (by rfl) (by exact trivial) ?_ (HeadStepsG.cons (by rfl) (by exact trivial) ?_ (HeadStepsG.cons (by rfl) (by exact trivial) ?_ (HeadStepsG.cons (by rfl) (by exact fun _ _ h => h) ?_ (HeadStepsG.cons (by rfl) (by exact fun _ _ h => h) ?_ (HeadStepsG.cons (by rfl) (by exact fun _ _ h => h) ?_ (HeadStepsG.cons (by rfl) (by exact fun _ _ h => h) ?_ (HeadStepsG.cons (by rfl) (by exact trivial) ?_ (HeadStepsG.cons (by rfl) (by exact trivial) ?_ (HeadStepsG.cons (by rfl) (by exact fun _ _ h => h) ?_ (HeadStepsG.cons (by rfl) (by exact fun _ _ h => h) ?_ (HeadStepsG.cons (by rfl) (by exact fun _ _ h => h) ?_ (HeadStepsG.cons (by rfl) (by exact fun _ _ h => h) ?_ (HeadStepsG.cons (by rfl) (by exact fun _ _ h => h) ?_ (HeadStepsG.cons (by rfl) (by exact trivial) ?_ (HeadStepsG.cons (by rfl) (by exact trivial) ?_ (HeadStepsG.cons (by rfl) (by exact fun _ _ h => h) ?_ (HeadStepsG.cons (by rfl) (by exact fun _ _ h => h) ?_ (HeadStepsG.cons (by rfl) (by exact fun _ _ h => h) ?_ (HeadStepsG.cons (by rfl) (by exact fun _ _ h => h) ?_ (HeadStepsG.cons (by rfl) (by exact fun _ _ h => h) ?_ (HeadStepsG.cons (by rfl) (by exact fun _ _ h => h) ?_ (HeadStepsG.cons (by rfl) (by exact trivial) ?_ (HeadStepsG.cons (by rfl) (by exact trivial) ?_ (HeadStepsG.cons (by rfl) (by exact fun _ _ h => h) ?_ (HeadStepsG.cons (by rfl) (by exact fun _ _ h => h) ?_ (HeadStepsG.cons (by rfl) (by exact fun _ _ h => h) ?_ (HeadStepsG.cons (by rfl) (by exact fun _ _ h => h) ?_ (HeadStepsG.cons (by rfl) (by exact trivial) ?_ (HeadStepsG.cons (by rfl) (by exact trivial) ?_ (HeadStepsG.cons (by rfl) (by exact fun _ _ h => h) ?_ (HeadStepsG.cons (by rfl) (by exact fun _ _ h => h) ?_ (HeadStepsG.cons (by rfl) (by exact fun _ _ h => h) ?_ (HeadStepsG.cons (by rfl) (by exact fun _ _ h => h) ?_ (HeadStepsG.cons (by rfl) (by exact trivial) ?_ (HeadStepsG.cons (by rfl) (by exact trivial) ?_ (HeadStepsG.cons (by rfl) (by exact fun _ _ h => h) ?_ (HeadStepsG.cons (by rfl) (by exact fun _ _ h => h) ?_ (HeadStepsG.cons (by rfl) (by exact fun _ _ h => h) ?_ (HeadStepsG.cons (by rfl) (by exact fun _ _ h => h) ?_ (HeadStepsG.cons (by rfl) (by exact fun _ _ h => h) ?_ (HeadStepsG.cons (by rfl) (by exact trivial) ?_ (HeadStepsG.cons (by rfl) (by exact trivial) ?_ (HeadStepsG.cons (by rfl) (by exact fun _ _ h => h) ?_ (HeadStepsG.cons (by rfl) (by exact fun _ _ h => h) ?_ (HeadStepsG.cons (by rfl) (by exact fun _ _ h => h) ?_ (HeadStepsG.cons (by rfl) (by exact fun _ _ h => h) ?_ (HeadStepsG.cons (by rfl) (by exact fun _ _ h => h) ?_ (HeadStepsG.cons (by rfl) (by exact fun _ _ h => h) ?_ (HeadStepsG.cons (by rfl) (by exact fun _ _ h => h) ?_ (HeadStepsG.cons (by rfl) (by exact trivial) ?_ (HeadStepsG.cons (by rfl) (by exact trivial) ?_ (HeadStepsG.cons (by rfl) (by exact fun _ _ h => h) ?_ (HeadStepsG.cons (by rfl) (by exact fun _ _ h => h) ?_ (HeadStepsG.cons (by rfl) (by exact fun _ _ h => h) ?_ (HeadStepsG.cons (by rfl) (by exact fun _ _ h => h) ?_ (HeadStepsG.cons (by rfl) (by exact fun _ _ h => h) ?_ (HeadStepsG.cons (by rfl) (by exact fun _ _ h => h) ?_ (HeadStepsG.cons (by rfl) (by exact fun _ _ h => h) ?_ (HeadStepsG.cons (by rfl) (by exact trivial) ?_ (HeadStepsG.cons (by rfl) (by exact trivial) ?_ (HeadStepsG.cons (by rfl) (by exact fun _ _ h => h) ?_ (HeadStepsG.cons (by rfl) (by exact fun _ _ h => h) ?_ (HeadStepsG.cons (by rfl) (by exact fun _ _ h => h) ?_ (HeadStepsG.cons (by rfl) (by exact fun _ _ h => h) ?_ (HeadStepsG.cons (by rfl) (by exact trivial) ?_ (HeadStepsG.cons (by rfl) (by exact trivial) ?_ (HeadStepsG.cons (by rfl) (by exact fun _ _ h => h) ?_ (HeadStepsG.cons (by rfl) (by exact fun _ _ h => h) ?_ (HeadStepsG.cons (by rfl) (by exact fun _ _ h => h) ?_ (HeadStepsG.cons (by rfl) (by exact fun _ _ h => h) ?_ (HeadStepsG.cons (by rfl) (by exact fun _ _ h => h) ?_ (HeadStepsG.cons (by rfl) (by exact fun _ _ h => h) ?_ (HeadStepsG.cons (by rfl) (by exact fun _ _ h => h) ?_ (HeadStepsG.cons (by rfl) (by exact fun _ _ h => h) ?_ (HeadStepsG.cons (by rfl) (by exact trivial) ?_ HeadStepsG.nil))))))))))))))))))))))))))))))))))))))))))))))))))))))))))))))))))))))))))))) ?_
      · -- slot 55
        intro ac wk hx hsame hdep K hK
        have d7 : ac.tmps.getD 7 undef = .string ⟨#[]⟩ := hsame 7 (by kernel_rfl)
        have e7 := d7
        rw [Array.getD_eq_getD_getElem?] at e7
        clear hsame hdep
        go_simp
        exact hK _ _ (Ext.refl _ wk) rfl
      · -- slot 56
        intro ac wk hx hsame hdep K hK
        have d9 : ac.tmps.getD 9 undef = .string ⟨#[]⟩ := hsame 9 (by kernel_rfl)
        have e9 := d9
        rw [Array.getD_eq_getD_getElem?] at e9
        clear hsame hdep
        go_simp
        exact hK _ _ (Ext.refl _ wk) rfl
      · -- slot 57
        intro ac wk hx hsame hdep K hK
        have d55 : ac.tmps.getD 55 undef = .string ⟨#[]⟩ := hdep 0 (by kernel_rfl)
        have e55 := d55
        rw [Array.getD_eq_getD_getElem?] at e55
        have d56 : ac.tmps.getD 56 undef = .string ⟨#[]⟩ := hdep 1 (by kernel_rfl)
        have e56 := d56
        rw [Array.getD_eq_getD_getElem?] at e56
        clear hsame hdep
        go_simp
        exact hK _ _ (Ext.refl _ wk) rfl
      · -- slot 58
        intro ac wk hx hsame hdep K hK
        have d57 : ac.tmps.getD 57 undef = .bool true := hdep 2 (by kernel_rfl)
        have e57 := d57
        rw [Array.getD_eq_getD_getElem?] at e57
        clear hsame hdep
        go_simp
        exact hK _ _ (Ext.refl _ wk) rfl
      · -- slot 59
        intro ac wk hx hsame hdep K hK
        have d8 : ac.tmps.getD 8 undef = .int .i64 38 := hsame 8 (by kernel_rfl)
        have e8 := d8
        rw [Array.getD_eq_getD_getElem?] at e8
        clear hsame hdep
        go_simp
        exact hK _ _ (Ext.refl _ wk) rfl
      · -- slot 60
        intro ac wk hx hsame hdep K hK
        have d59 : ac.tmps.getD 59 undef = .int .i64 38 := hdep 4 (by kernel_rfl)
        have e59 := d59
        rw [Array.getD_eq_getD_getElem?] at e59
        clear hsame hdep
        go_simp
        exact hK _ _ (Ext.refl _ wk) rfl
      · -- slot 61
        intro ac wk hx hsame hdep K hK
        have d10 : ac.tmps.getD 10 undef = .bool false := hsame 10 (by kernel_rfl)
        have e10 := d10
        rw [Array.getD_eq_getD_getElem?] at e10
        clear hsame hdep
        go_simp
        exact hK _ _ (Ext.refl _ wk) rfl
      · -- slot 62
        intro ac wk hx hsame hdep K hK
        have d60 : ac.tmps.getD 60 undef = .bool false := hdep 5 (by kernel_rfl)
        have e60 := d60
        rw [Array.getD_eq_getD_getElem?] at e60
        have d61 : ac.tmps.getD 61 undef = .bool false := hdep 6 (by kernel_rfl)
        have e61 := d61
        rw [Array.getD_eq_getD_getElem?] at e61
        clear hsame hdep
        go_simp
        exact hK _ _ (Ext.refl _ wk) rfl
      · -- slot 63
        intro ac wk hx hsame hdep K hK
        have d58 : ac.tmps.getD 58 undef = .bool true := hdep 3 (by kernel_rfl)
        have e58 := d58
        rw [Array.getD_eq_getD_getElem?] at e58
        have d62 : ac.tmps.getD 62 undef = .bool true := hdep 7 (by kernel_rfl)
        have e62 := d62
        rw [Array.getD_eq_getD_getElem?] at e62
        clear hsame hdep
        go_simp
        exact hK _ _ (Ext.refl _ wk) rfl
      · -- slot 64
        intro ac wk hx hsame hdep K hK
        have d63 : ac.tmps.getD 63 undef = .bool true := hdep 8 (by kernel_rfl)
        have e63 := d63
        rw [Array.getD_eq_getD_getElem?] at e63
        clear hsame hdep
        go_simp
        exact hK _ _ (Ext.refl _ wk) rfl
      · -- slot 65
        intro ac wk hx hsame hdep K hK
        have d10 : ac.tmps.getD 10 undef = .bool false := hsame 10 (by kernel_rfl)
        have e10 := d10
        rw [Array.getD_eq_getD_getElem?] at e10
        clear hsame hdep
        go_simp
        exact hK _ _ (Ext.refl _ wk) rfl
      · -- slot 66
        intro ac wk hx hsame hdep K hK
        have d65 : ac.tmps.getD 65 undef = .bool false := hdep 10 (by kernel_rfl)
        have e65 := d65
        rw [Array.getD_eq_getD_getElem?] at e65
        clear hsame hdep
        go_simp
        exact hK _ _ (Ext.refl _ wk) rfl
      · -- slot 67
        intro ac wk hx hsame hdep K hK
        have d8 : ac.tmps.getD 8 undef = .int .i64 38 := hsame 8 (by kernel_rfl)
        have e8 := d8
        rw [Array.getD_eq_getD_getElem?] at e8
        clear hsame hdep
        go_simp
        exact hK _ _ (Ext.refl _ wk) rfl
      · -- slot 68
        intro ac wk hx hsame hdep K hK
        have d67 : ac.tmps.getD 67 undef = .int .i64 38 := hdep 12 (by kernel_rfl)
        have e67 := d67
        rw [Array.getD_eq_getD_getElem?] at e67
        clear hsame hdep
        go_simp
        exact hK _ _ (Ext.refl _ wk) rfl
      · -- slot 69
        intro ac wk hx hsame hdep K hK
        have d66 : ac.tmps.getD 66 undef = .bool false := hdep 11 (by kernel_rfl)
        have e66 := d66
        rw [Array.getD_eq_getD_getElem?] at e66
        have d68 : ac.tmps.getD 68 undef = .bool true := hdep 13 (by kernel_rfl)
        have e68 := d68
        rw [Array.getD_eq_getD_getElem?] at e68
        clear hsame hdep
        go_simp
        exact hK _ _ (Ext.refl _ wk) rfl
      · -- slot 70
        intro ac wk hx hsame hdep K hK
        have d64 : ac.tmps.getD 64 undef = .bool true := hdep 9 (by kernel_rfl)
        have e64 := d64
        rw [Array.getD_eq_getD_getElem?] at e64
        have d69 : ac.tmps.getD 69 undef = .bool true := hdep 14 (by kernel_rfl)
        have e69 := d69
        rw [Array.getD_eq_getD_getElem?] at e69
        clear hsame hdep
        go_simp
        exact hK _ _ (Ext.refl _ wk) rfl
      · -- slot 71
        intro ac wk hx hsame hdep K hK
        have d70 : ac.tmps.getD 70 undef = .bool true := hdep 15 (by kernel_rfl)
        have e70 := d70
        rw [Array.getD_eq_getD_getElem?] at e70
        clear hsame hdep
        go_simp
        exact hK _ _ (Ext.refl _ wk) rfl
      · -- slot 72
        intro ac wk hx hsame hdep K hK
        have d0 : ac.tmps.getD 0 undef = .string (strB p) := hsame 0 (by kernel_rfl)
        have e0 := d0
        rw [Array.getD_eq_getD_getElem?] at e0
        clear hsame hdep
        go_simp
        exact hK _ _ (Ext.refl _ wk) rfl
      · -- slot 73
        intro ac wk hx hsame hdep K hK
        have d72 : ac.tmps.getD 72 undef = .string (strB p) := hdep 17 (by kernel_rfl)
        have e72 := d72
        rw [Array.getD_eq_getD_getElem?] at e72
        clear hsame hdep
        go_simp
        refine (HCK.out wk).mono ?_
        rintro e w' ⟨rfl, hx'⟩
        exact hK _ _ hx' rfl
      · -- slot 74
        intro ac wk hx hsame hdep K hK
        have p73 : (ac.tmps.getD 73 undef) = .int .i64 ck := hdep 18 (by kernel_rfl)
        have d73 := p73
        have e73 := d73
        rw [Array.getD_eq_getD_getElem?] at e73
        clear hsame hdep
        go_simp
        exact hK _ _ (Ext.refl _ wk) rfl
      · -- slot 75
        intro ac wk hx hsame hdep K hK
        have d0 : ac.tmps.getD 0 undef = .string (strB p) := hsame 0 (by kernel_rfl)
        have e0 := d0
        rw [Array.getD_eq_getD_getElem?] at e0
        clear hsame hdep
        go_simp
        exact hK _ _ (Ext.refl _ wk) rfl
      · -- slot 76
        intro ac wk hx hsame hdep K hK
        have d75 : ac.tmps.getD 75 undef = .string (strB p) := hdep 20 (by kernel_rfl)
        have e75 := d75
        rw [Array.getD_eq_getD_getElem?] at e75
        clear hsame hdep
        go_simp
        refine (HRR.out wk).mono ?_
        rintro e w' ⟨rfl, hx'⟩
        exact hK _ _ hx' rfl
      · -- slot 77
        intro ac wk hx hsame hdep K hK
        have d74 : ac.tmps.getD 74 undef = .bool rb := hdep 19 (by kernel_rfl)
        have e74 := d74
        rw [Array.getD_eq_getD_getElem?] at e74
        have p76 : (ac.tmps.getD 76 undef) = .bool rb := hdep 21 (by kernel_rfl)
        have d76 := p76
        have e76 := d76
        rw [Array.getD_eq_getD_getElem?] at e76
        clear hsame hdep
        go_simp
        exact hK _ _ (Ext.refl _ wk) rfl
      · -- slot 78
        intro ac wk hx hsame hdep K hK
        have d71 : ac.tmps.getD 71 undef = .bool true := hdep 16 (by kernel_rfl)
        have e71 := d71
        rw [Array.getD_eq_getD_getElem?] at e71
        have d77 : ac.tmps.getD 77 undef = .bool true := hdep 22 (by kernel_rfl)
        have e77 := d77
        rw [Array.getD_eq_getD_getElem?] at e77
        clear hsame hdep
        go_simp
        exact hK _ _ (Ext.refl _ wk) rfl
      · -- slot 79
        intro ac wk hx hsame hdep K hK
        have d78 : ac.tmps.getD 78 undef = .bool true := hdep 23 (by kernel_rfl)
        have e78 := d78
        rw [Array.getD_eq_getD_getElem?] at e78
        clear hsame hdep
        go_simp
        exact hK _ _ (Ext.refl _ wk) rfl
      · -- slot 80
        intro ac wk hx hsame hdep K hK
        have d0 : ac.tmps.getD 0 undef = .string (strB p) := hsame 0 (by kernel_rfl)
        have e0 := d0
        rw [Array.getD_eq_getD_getElem?] at e0
        clear hsame hdep
        go_simp
        exact hK _ _ (Ext.refl _ wk) rfl
      · -- slot 81
        intro ac wk hx hsame hdep K hK
        have d80 : ac.tmps.getD 80 undef = .string (strB p) := hdep 25 (by kernel_rfl)
        have e80 := d80
        rw [Array.getD_eq_getD_getElem?] at e80
        clear hsame hdep
        go_simp
        refine (HPA.out wk).mono ?_
        rintro e w' ⟨rfl, hx'⟩
        exact hK _ _ hx' rfl
      · -- slot 82
        intro ac wk hx hsame hdep K hK
        have d11 : ac.tmps.getD 11 undef = .string (strB pp) := hsame 11 (by kernel_rfl)
        have e11 := d11
        rw [Array.getD_eq_getD_getElem?] at e11
        clear hsame hdep
        go_simp
        exact hK _ _ (Ext.refl _ wk) rfl
      · -- slot 83
        intro ac wk hx hsame hdep K hK
        have p81 : (ac.tmps.getD 81 undef) = .string (strB pp) := hdep 26 (by kernel_rfl)
        have d81 := p81
        have e81 := d81
        rw [Array.getD_eq_getD_getElem?] at e81
        have d82 : ac.tmps.getD 82 undef = .string (strB pp) := hdep 27 (by kernel_rfl)
        have e82 := d82
        rw [Array.getD_eq_getD_getElem?] at e82
        clear hsame hdep
        go_simp
        exact hK _ _ (Ext.refl _ wk) rfl
      · -- slot 84
        intro ac wk hx hsame hdep K hK
        have d79 : ac.tmps.getD 79 undef = .bool true := hdep 24 (by kernel_rfl)
        have e79 := d79
        rw [Array.getD_eq_getD_getElem?] at e79
        have d83 : ac.tmps.getD 83 undef = .bool true := hdep 28 (by kernel_rfl)
        have e83 := d83
        rw [Array.getD_eq_getD_getElem?] at e83
        clear hsame hdep
        go_simp
        exact hK _ _ (Ext.refl _ wk) rfl
      · -- slot 85
        intro ac wk hx hsame hdep K hK
        have d84 : ac.tmps.getD 84 undef = .bool true := hdep 29 (by kernel_rfl)
        have e84 := d84
        rw [Array.getD_eq_getD_getElem?] at e84
        clear hsame hdep
        go_simp
        exact hK _ _ (Ext.refl _ wk) rfl
      · -- slot 86
        intro ac wk hx hsame hdep K hK
        have d0 : ac.tmps.getD 0 undef = .string (strB p) := hsame 0 (by kernel_rfl)
        have e0 := d0
        rw [Array.getD_eq_getD_getElem?] at e0
        clear hsame hdep
        go_simp
        exact hK _ _ (Ext.refl _ wk) rfl
      · -- slot 87
        intro ac wk hx hsame hdep K hK
        have d86 : ac.tmps.getD 86 undef = .string (strB p) := hdep 31 (by kernel_rfl)
        have e86 := d86
        rw [Array.getD_eq_getD_getElem?] at e86
        clear hsame hdep
        go_simp
        refine (HBA.out wk).mono ?_
        rintro e w' ⟨rfl, hx'⟩
        exact hK _ _ hx' rfl
      · -- slot 88
        intro ac wk hx hsame hdep K hK
        have d12 : ac.tmps.getD 12 undef = .string (strB bp) := hsame 12 (by kernel_rfl)
        have e12 := d12
        rw [Array.getD_eq_getD_getElem?] at e12
        clear hsame hdep
        go_simp
        exact hK _ _ (Ext.refl _ wk) rfl
      · -- slot 89
        intro ac wk hx hsame hdep K hK
        have p87 : (ac.tmps.getD 87 undef) = .string (strB bp) := hdep 32 (by kernel_rfl)
        have d87 := p87
        have e87 := d87
        rw [Array.getD_eq_getD_getElem?] at e87
        have d88 : ac.tmps.getD 88 undef = .string (strB bp) := hdep 33 (by kernel_rfl)
        have e88 := d88
        rw [Array.getD_eq_getD_getElem?] at e88
        clear hsame hdep
        go_simp
        exact hK _ _ (Ext.refl _ wk) rfl
      · -- slot 90
        intro ac wk hx hsame hdep K hK
        have d85 : ac.tmps.getD 85 undef = .bool true := hdep 30 (by kernel_rfl)
        have e85 := d85
        rw [Array.getD_eq_getD_getElem?] at e85
        have d89 : ac.tmps.getD 89 undef = .bool true := hdep 34 (by kernel_rfl)
        have e89 := d89
        rw [Array.getD_eq_getD_getElem?] at e89
        clear hsame hdep
        go_simp
        exact hK _ _ (Ext.refl _ wk) rfl
      · -- slot 91
        intro ac wk hx hsame hdep K hK
        have d90 : ac.tmps.getD 90 undef = .bool true := hdep 35 (by kernel_rfl)
        have e90 := d90
        rw [Array.getD_eq_getD_getElem?] at e90
        clear hsame hdep
        go_simp
        exact hK _ _ (Ext.refl _ wk) rfl
      · -- slot 92
        intro ac wk hx hsame hdep K hK
        have d0 : ac.tmps.getD 0 undef = .string (strB p) := hsame 0 (by kernel_rfl)
        have e0 := d0
        rw [Array.getD_eq_getD_getElem?] at e0
        clear hsame hdep
        go_simp
        exact hK _ _ (Ext.refl _ wk) rfl
      · -- slot 93
        intro ac wk hx hsame hdep K hK
        have d1 : ac.tmps.getD 1 undef = .string (strB q) := hsame 1 (by kernel_rfl)
        have e1 := d1
        rw [Array.getD_eq_getD_getElem?] at e1
        clear hsame hdep
        go_simp
        exact hK _ _ (Ext.refl _ wk) rfl
      · -- slot 94
        intro ac wk hx hsame hdep K hK
        have d92 : ac.tmps.getD 92 undef = .string (strB p) := hdep 37 (by kernel_rfl)
        have e92 := d92
        rw [Array.getD_eq_getD_getElem?] at e92
        have d93 : ac.tmps.getD 93 undef = .string (strB q) := hdep 38 (by kernel_rfl)
        have e93 := d93
        rw [Array.getD_eq_getD_getElem?] at e93
        clear hsame hdep
        go_simp
        refine (HJO.out wk).mono ?_
        rintro e w' ⟨rfl, hx'⟩
        exact hK _ _ hx' rfl
      · -- slot 95
        intro ac wk hx hsame hdep K hK
        have d13 : ac.tmps.getD 13 undef = .string (strB J) := hsame 13 (by kernel_rfl)
        have e13 := d13
        rw [Array.getD_eq_getD_getElem?] at e13
        clear hsame hdep
        go_simp
        exact hK _ _ (Ext.refl _ wk) rfl
      · -- slot 96
        intro ac wk hx hsame hdep K hK
        have p94 : (ac.tmps.getD 94 undef) = .string (strB J) := hdep 39 (by kernel_rfl)
        have d94 := p94
        have e94 := d94
        rw [Array.getD_eq_getD_getElem?] at e94
        have d95 : ac.tmps.getD 95 undef = .string (strB J) := hdep 40 (by kernel_rfl)
        have e95 := d95
        rw [Array.getD_eq_getD_getElem?] at e95
        clear hsame hdep
        go_simp
        exact hK _ _ (Ext.refl _ wk) rfl
      · -- slot 97
        intro ac wk hx hsame hdep K hK
        have d91 : ac.tmps.getD 91 undef = .bool true := hdep 36 (by kernel_rfl)
        have e91 := d91
        rw [Array.getD_eq_getD_getElem?] at e91
        have d96 : ac.tmps.getD 96 undef = .bool true := hdep 41 (by kernel_rfl)
        have e96 := d96
        rw [Array.getD_eq_getD_getElem?] at e96
        clear hsame hdep
        go_simp
        exact hK _ _ (Ext.refl _ wk) rfl
      · -- slot 98
        intro ac wk hx hsame hdep K hK
        have d97 : ac.tmps.getD 97 undef = .bool true := hdep 42 (by kernel_rfl)
        have e97 := d97
        rw [Array.getD_eq_getD_getElem?] at e97
        clear hsame hdep
        go_simp
        exact hK _ _ (Ext.refl _ wk) rfl
      · -- slot 99
        intro ac wk hx hsame hdep K hK
        have d0 : ac.tmps.getD 0 undef = .string (strB p) := hsame 0 (by kernel_rfl)
        have e0 := d0
        rw [Array.getD_eq_getD_getElem?] at e0
        clear hsame hdep
        go_simp
        exact hK _ _ (Ext.refl _ wk) rfl
      · -- slot 100
        intro ac wk hx hsame hdep K hK
        have d1 : ac.tmps.getD 1 undef = .string (strB q) := hsame 1 (by kernel_rfl)
        have e1 := d1
        rw [Array.getD_eq_getD_getElem?] at e1
        clear hsame hdep
        go_simp
        exact hK _ _ (Ext.refl _ wk) rfl
      · -- slot 101
        intro ac wk hx hsame hdep K hK
        have d99 : ac.tmps.getD 99 undef = .string (strB p) := hdep 44 (by kernel_rfl)
        have e99 := d99
        rw [Array.getD_eq_getD_getElem?] at e99
        have d100 : ac.tmps.getD 100 undef = .string (strB q) := hdep 45 (by kernel_rfl)
        have e100 := d100
        rw [Array.getD_eq_getD_getElem?] at e100
        clear hsame hdep
        go_simp
        refine (HLL.out wk).mono ?_
        rintro e w' ⟨rfl, hx'⟩
        exact hK _ _ hx' rfl
      · -- slot 102
        intro ac wk hx hsame hdep K hK
        have d0 : ac.tmps.getD 0 undef = .string (strB p) := hsame 0 (by kernel_rfl)
        have e0 := d0
        rw [Array.getD_eq_getD_getElem?] at e0
        clear hsame hdep
        go_simp
        exact hK _ _ (Ext.refl _ wk) rfl
      · -- slot 103
        intro ac wk hx hsame hdep K hK
        have d1 : ac.tmps.getD 1 undef = .string (strB q) := hsame 1 (by kernel_rfl)
        have e1 := d1
        rw [Array.getD_eq_getD_getElem?] at e1
        clear hsame hdep
        go_simp
        exact hK _ _ (Ext.refl _ wk) rfl
      · -- slot 104
        intro ac wk hx hsame hdep K hK
        have d102 : ac.tmps.getD 102 undef = .string (strB p) := hdep 47 (by kernel_rfl)
        have e102 := d102
        rw [Array.getD_eq_getD_getElem?] at e102
        have d103 : ac.tmps.getD 103 undef = .string (strB q) := hdep 48 (by kernel_rfl)
        have e103 := d103
        rw [Array.getD_eq_getD_getElem?] at e103
        clear hsame hdep
        go_simp
        refine (HRL.out wk).mono ?_
        rintro e w' ⟨rfl, hx'⟩
        exact hK _ _ hx' rfl
      · -- slot 105
        intro ac wk hx hsame hdep K hK
        have p101 : (ac.tmps.getD 101 undef) = .bool lb := hdep 46 (by kernel_rfl)
        have d101 := p101
        have e101 := d101
        rw [Array.getD_eq_getD_getElem?] at e101
        have p104 : (ac.tmps.getD 104 undef) = .bool lb := hdep 49 (by kernel_rfl)
        have d104 := p104
        have e104 := d104
        rw [Array.getD_eq_getD_getElem?] at e104
        clear hsame hdep
        go_simp
        exact hK _ _ (Ext.refl _ wk) rfl
      · -- slot 106
        intro ac wk hx hsame hdep K hK
        have d98 : ac.tmps.getD 98 undef = .bool true := hdep 43 (by kernel_rfl)
        have e98 := d98
        rw [Array.getD_eq_getD_getElem?] at e98
        have d105 : ac.tmps.getD 105 undef = .bool true := hdep 50 (by kernel_rfl)
        have e105 := d105
        rw [Array.getD_eq_getD_getElem?] at e105
        clear hsame hdep
        go_simp
        exact hK _ _ (Ext.refl _ wk) rfl
      · -- slot 107
        intro ac wk hx hsame hdep K hK
        have d106 : ac.tmps.getD 106 undef = .bool true := hdep 51 (by kernel_rfl)
        have e106 := d106
        rw [Array.getD_eq_getD_getElem?] at e106
        clear hsame hdep
        go_simp
        exact hK _ _ (Ext.refl _ wk) rfl
      · -- slot 108
        intro ac wk hx hsame hdep K hK
        have d0 : ac.tmps.getD 0 undef = .string (strB p) := hsame 0 (by kernel_rfl)
        have e0 := d0
        rw [Array.getD_eq_getD_getElem?] at e0
        clear hsame hdep
        go_simp
        exact hK _ _ (Ext.refl _ wk) rfl
      · -- slot 109
        intro ac wk hx hsame hdep K hK
        have d1 : ac.tmps.getD 1 undef = .string (strB q) := hsame 1 (by kernel_rfl)
        have e1 := d1
        rw [Array.getD_eq_getD_getElem?] at e1
        clear hsame hdep
        go_simp
        exact hK _ _ (Ext.refl _ wk) rfl
      · -- slot 110
        intro ac wk hx hsame hdep K hK
        have d108 : ac.tmps.getD 108 undef = .string (strB p) := hdep 53 (by kernel_rfl)
        have e108 := d108
        rw [Array.getD_eq_getD_getElem?] at e108
        have d109 : ac.tmps.getD 109 undef = .string (strB q) := hdep 54 (by kernel_rfl)
        have e109 := d109
        rw [Array.getD_eq_getD_getElem?] at e109
        clear hsame hdep
        go_simp
        refine (HWW.out wk).mono ?_
        rintro e w' ⟨rfl, hx'⟩
        exact hK _ _ hx' rfl
      · -- slot 111
        intro ac wk hx hsame hdep K hK
        have d0 : ac.tmps.getD 0 undef = .string (strB p) := hsame 0 (by kernel_rfl)
        have e0 := d0
        rw [Array.getD_eq_getD_getElem?] at e0
        clear hsame hdep
        go_simp
        exact hK _ _ (Ext.refl _ wk) rfl
      · -- slot 112
        intro ac wk hx hsame hdep K hK
        have d1 : ac.tmps.getD 1 undef = .string (strB q) := hsame 1 (by kernel_rfl)
        have e1 := d1
        rw [Array.getD_eq_getD_getElem?] at e1
        clear hsame hdep
        go_simp
        exact hK _ _ (Ext.refl _ wk) rfl
      · -- slot 113
        intro ac wk hx hsame hdep K hK
        have d111 : ac.tmps.getD 111 undef = .string (strB p) := hdep 56 (by kernel_rfl)
        have e111 := d111
        rw [Array.getD_eq_getD_getElem?] at e111
        have d112 : ac.tmps.getD 112 undef = .string (strB q) := hdep 57 (by kernel_rfl)
        have e112 := d112
        rw [Array.getD_eq_getD_getElem?] at e112
        clear hsame hdep
        go_simp
        refine (HRW.out wk).mono ?_
        rintro e w' ⟨rfl, hx'⟩
        exact hK _ _ hx' rfl
      · -- slot 114
        intro ac wk hx hsame hdep K hK
        have p110 : (ac.tmps.getD 110 undef) = .bool wb := hdep 55 (by kernel_rfl)
        have d110 := p110
        have e110 := d110
        rw [Array.getD_eq_getD_getElem?] at e110
        have p113 : (ac.tmps.getD 113 undef) = .bool wb := hdep 58 (by kernel_rfl)
        have d113 := p113
        have e113 := d113
        rw [Array.getD_eq_getD_getElem?] at e113
        clear hsame hdep
        go_simp
        exact hK _ _ (Ext.refl _ wk) rfl
      · -- slot 115
        intro ac wk hx hsame hdep K hK
        have d107 : ac.tmps.getD 107 undef = .bool true := hdep 52 (by kernel_rfl)
        have e107 := d107
        rw [Array.getD_eq_getD_getElem?] at e107
        have d114 : ac.tmps.getD 114 undef = .bool true := hdep 59 (by kernel_rfl)
        have e114 := d114
        rw [Array.getD_eq_getD_getElem?] at e114
        clear hsame hdep
        go_simp
        exact hK _ _ (Ext.refl _ wk) rfl
      · -- slot 116
        intro ac wk hx hsame hdep K hK
        have d115 : ac.tmps.getD 115 undef = .bool true := hdep 60 (by kernel_rfl)
        have e115 := d115
        rw [Array.getD_eq_getD_getElem?] at e115
        clear hsame hdep
        go_simp
        exact hK _ _ (Ext.refl _ wk) rfl
      · -- slot 117
        intro ac wk hx hsame hdep K hK
        have d0 : ac.tmps.getD 0 undef = .string (strB p) := hsame 0 (by kernel_rfl)
        have e0 := d0
        rw [Array.getD_eq_getD_getElem?] at e0
        clear hsame hdep
        go_simp
        exact hK _ _ (Ext.refl _ wk) rfl
      · -- slot 118
        intro ac wk hx hsame hdep K hK
        have d117 : ac.tmps.getD 117 undef = .string (strB p) := hdep 62 (by kernel_rfl)
        have e117 := d117
        rw [Array.getD_eq_getD_getElem?] at e117
        clear hsame hdep
        go_simp
        refine (HP1.out wk).mono ?_
        rintro e w' ⟨v, rfl, hv, hx'⟩
        exact hK _ _ hx' hv
      · -- slot 119
        intro ac wk hx hsame hdep K hK
        have d14 : ac.tmps.getD 14 undef = .slice (some ⟨vb, vo, none⟩) N vc := hsame 14 (by kernel_rfl)
        have e14 := d14
        rw [Array.getD_eq_getD_getElem?] at e14
        clear hsame hdep
        go_simp
        exact hK _ _ (Ext.refl _ wk) rfl
      · -- slot 120
        intro ac wk hx hsame hdep K hK
        have p118 : IsStrs wk L (ac.tmps.getD 118 undef) := hdep 63 (by kernel_rfl)
        obtain ⟨v118, d118, q118⟩ : ∃ u, ac.tmps.getD 118 undef = u ∧ IsStrs wk L u := ⟨_, rfl, p118⟩
        have e118 := d118
        rw [Array.getD_eq_getD_getElem?] at e118
        have d119 : ac.tmps.getD 119 undef = .slice (some ⟨vb, vo, none⟩) N vc := hdep 64 (by kernel_rfl)
        have e119 := d119
        rw [Array.getD_eq_getD_getElem?] at e119
        clear hsame hdep
        go_simp
        refine (HSS.out L _ _ wk q118 (HV.out.ext0 (Dr.extN hx))).mono ?_
        rintro e w' ⟨rfl, hx'⟩
        exact hK _ _ hx' rfl
      · -- slot 121
        intro ac wk hx hsame hdep K hK
        have d116 : ac.tmps.getD 116 undef = .bool true := hdep 61 (by kernel_rfl)
        have e116 := d116
        rw [Array.getD_eq_getD_getElem?] at e116
        have p120 : (ac.tmps.getD 120 undef) = .bool true := hdep 65 (by kernel_rfl)
        have d120 := p120
        have e120 := d120
        rw [Array.getD_eq_getD_getElem?] at e120
        clear hsame hdep
        go_simp
        exact hK _ _ (Ext.refl _ wk) rfl
      · -- slot 122
        intro ac wk hx hsame hdep K hK
        have d121 : ac.tmps.getD 121 undef = .bool true := hdep 66 (by kernel_rfl)
        have e121 := d121
        rw [Array.getD_eq_getD_getElem?] at e121
        clear hsame hdep
        go_simp
        exact hK _ _ (Ext.refl _ wk) rfl
      · -- slot 123
        intro ac wk hx hsame hdep K hK
        have d0 : ac.tmps.getD 0 undef = .string (strB p) := hsame 0 (by kernel_rfl)
        have e0 := d0
        rw [Array.getD_eq_getD_getElem?] at e0
        clear hsame hdep
        go_simp
        exact hK _ _ (Ext.refl _ wk) rfl
      · -- slot 124
        intro ac wk hx hsame hdep K hK
        have d2 : ac.tmps.getD 2 undef = .int .i64 most := hsame 2 (by kernel_rfl)
        have e2 := d2
        rw [Array.getD_eq_getD_getElem?] at e2
        clear hsame hdep
        go_simp
        exact hK _ _ (Ext.refl _ wk) rfl
      · -- slot 125
        intro ac wk hx hsame hdep K hK
        have d124 : ac.tmps.getD 124 undef = .int .i64 most := hdep 69 (by kernel_rfl)
        have e124 := d124
        rw [Array.getD_eq_getD_getElem?] at e124
        clear hsame hdep
        go_simp
        exact hK _ _ (Ext.refl _ wk) rfl
      · -- slot 126
        intro ac wk hx hsame hdep K hK
        have d123 : ac.tmps.getD 123 undef = .string (strB p) := hdep 68 (by kernel_rfl)
        have e123 := d123
        rw [Array.getD_eq_getD_getElem?] at e123
        have d125 : ac.tmps.getD 125 undef = .int .i64 (r : Int) := hdep 70 (by kernel_rfl)
        have e125 := d125
        rw [Array.getD_eq_getD_getElem?] at e125
        clear hsame hdep
        go_simp
        refine (HP2.out wk).mono ?_
        rintro e w' ⟨v, rfl, hv, hx'⟩
        exact hK _ _ hx' hv
      · -- slot 127
        intro ac wk hx hsame hdep K hK
        have d14 : ac.tmps.getD 14 undef = .slice (some ⟨vb, vo, none⟩) N vc := hsame 14 (by kernel_rfl)
        have e14 := d14
        rw [Array.getD_eq_getD_getElem?] at e14
        clear hsame hdep
        go_simp
        exact hK _ _ (Ext.refl _ wk) rfl
      · -- slot 128
        intro ac wk hx hsame hdep K hK
        have d15 : ac.tmps.getD 15 undef = .int .i64 (s : Int) := hsame 15 (by kernel_rfl)
        have e15 := d15
        rw [Array.getD_eq_getD_getElem?] at e15
        clear hsame hdep
        go_simp
        exact hK _ _ (Ext.refl _ wk) rfl
      · -- slot 129
        intro ac wk hx hsame hdep K hK
        have d127 : ac.tmps.getD 127 undef = .slice (some ⟨vb, vo, none⟩) N vc := hdep 72 (by kernel_rfl)
        have e127 := d127
        rw [Array.getD_eq_getD_getElem?] at e127
        have d128 : ac.tmps.getD 128 undef = .int .i64 (s : Int) := hdep 73 (by kernel_rfl)
        have e128 := d128
        rw [Array.getD_eq_getD_getElem?] at e128
        clear hsame hdep
        go_simp
        exact hK _ _ (Ext.refl _ wk) rfl
      · -- slot 130
        intro ac wk hx hsame hdep K hK
        have p126 : IsStrs wk (L.take s) (ac.tmps.getD 126 undef) := hdep 71 (by kernel_rfl)
        obtain ⟨v126, d126, q126⟩ : ∃ u, ac.tmps.getD 126 undef = u ∧ IsStrs wk (L.take s) u := ⟨_, rfl, p126⟩
        have e126 := d126
        rw [Array.getD_eq_getD_getElem?] at e126
        have d129 : ac.tmps.getD 129 undef = .slice (some ⟨vb, vo, none⟩) s vc := hdep 74 (by kernel_rfl)
        have e129 := d129
        rw [Array.getD_eq_getD_getElem?] at e129
        clear hsame hdep
        go_simp
        refine (HSS.out (L.take s) _ _ wk q126 (HVT.out.ext0 (Dr.extN hx))).mono ?_
        rintro e w' ⟨rfl, hx'⟩
        exact hK _ _ hx' rfl
      · -- slot 131
        intro ac wk hx hsame hdep K hK
        have d122 : ac.tmps.getD 122 undef = .bool true := hdep 67 (by kernel_rfl)
        have e122 := d122
        rw [Array.getD_eq_getD_getElem?] at e122
        have p130 : (ac.tmps.getD 130 undef) = .bool true := hdep 75 (by kernel_rfl)
        have d130 := p130
        have e130 := d130
        rw [Array.getD_eq_getD_getElem?] at e130
        clear hsame hdep
        go_simp
        exact hK _ _ (Ext.refl _ wk) rfl
      · intro ac wk hx hdf hsz hsame hvals
        have f0 : ac.tmps.getD 0 undef = .string (strB p) := hsame 0 (by kernel_rfl)
        have f1 : ac.tmps.getD 1 undef = .string (strB q) := hsame 1 (by kernel_rfl)
        have f2 : ac.tmps.getD 2 undef = .int .i64 most := hsame 2 (by kernel_rfl)
        obtain ⟨u3, f3⟩ : ∃ u, ac.tmps.getD 3 undef = u := ⟨_, rfl⟩
        obtain ⟨u4, f4⟩ : ∃ u, ac.tmps.getD 4 undef = u := ⟨_, rfl⟩
        obtain ⟨u5, f5⟩ : ∃ u, ac.tmps.getD 5 undef = u := ⟨_, rfl⟩
        obtain ⟨u6, f6⟩ : ∃ u, ac.tmps.getD 6 undef = u := ⟨_, rfl⟩
        have f7 : ac.tmps.getD 7 undef = .string ⟨#[]⟩ := hsame 7 (by kernel_rfl)
        have f8 : ac.tmps.getD 8 undef = .int .i64 38 := hsame 8 (by kernel_rfl)
        have f9 : ac.tmps.getD 9 undef = .string ⟨#[]⟩ := hsame 9 (by kernel_rfl)
        have f10 : ac.tmps.getD 10 undef = .bool false := hsame 10 (by kernel_rfl)
        have f11 : ac.tmps.getD 11 undef = .string (strB pp) := hsame 11 (by kernel_rfl)
        have f12 : ac.tmps.getD 12 undef = .string (strB bp) := hsame 12 (by kernel_rfl)
        have f13 : ac.tmps.getD 13 undef = .string (strB J) := hsame 13 (by kernel_rfl)
        have f14 : ac.tmps.getD 14 undef = .slice (some ⟨vb, vo, none⟩) N vc := hsame 14 (by kernel_rfl)
        have f15 : ac.tmps.getD 15 undef = .int .i64 (s : Int) := hsame 15 (by kernel_rfl)
        obtain ⟨u16, f16⟩ : ∃ u, ac.tmps.getD 16 undef = u := ⟨_, rfl⟩
        obtain ⟨u17, f17⟩ : ∃ u, ac.tmps.getD 17 undef = u := ⟨_, rfl⟩
        obtain ⟨u18, f18⟩ : ∃ u, ac.tmps.getD 18 undef = u := ⟨_, rfl⟩
        obtain ⟨u19, f19⟩ : ∃ u, ac.tmps.getD 19 undef = u := ⟨_, rfl⟩
        obtain ⟨u20, f20⟩ : ∃ u, ac.tmps.getD 20 undef = u := ⟨_, rfl⟩
        obtain ⟨u21, f21⟩ : ∃ u, ac.tmps.getD 21 undef = u := ⟨_, rfl⟩
        obtain ⟨u22, f22⟩ : ∃ u, ac.tmps.getD 22 undef = u := ⟨_, rfl⟩
        obtain ⟨u23, f23⟩ : ∃ u, ac.tmps.getD 23 undef = u := ⟨_, rfl⟩
        obtain ⟨u24, f24⟩ : ∃ u, ac.tmps.getD 24 undef = u := ⟨_, rfl⟩
        obtain ⟨u25, f25⟩ : ∃ u, ac.tmps.getD 25 undef = u := ⟨_, rfl⟩
        obtain ⟨u26, f26⟩ : ∃ u, ac.tmps.getD 26 undef = u := ⟨_, rfl⟩
        obtain ⟨u27, f27⟩ : ∃ u, ac.tmps.getD 27 undef = u := ⟨_, rfl⟩
        obtain ⟨u28, f28⟩ : ∃ u, ac.tmps.getD 28 undef = u := ⟨_, rfl⟩
        obtain ⟨u29, f29⟩ : ∃ u, ac.tmps.getD 29 undef = u := ⟨_, rfl⟩
        obtain ⟨u30, f30⟩ : ∃ u, ac.tmps.getD 30 undef = u := ⟨_, rfl⟩
        obtain ⟨u31, f31⟩ : ∃ u, ac.tmps.getD 31 undef = u := ⟨_, rfl⟩
        obtain ⟨u32, f32⟩ : ∃ u, ac.tmps.getD 32 undef = u := ⟨_, rfl⟩
        obtain ⟨u33, f33⟩ : ∃ u, ac.tmps.getD 33 undef = u := ⟨_, rfl⟩
        obtain ⟨u34, f34⟩ : ∃ u, ac.tmps.getD 34 undef = u := ⟨_, rfl⟩
        obtain ⟨u35, f35⟩ : ∃ u, ac.tmps.getD 35 undef = u := ⟨_, rfl⟩
        obtain ⟨u36, f36⟩ : ∃ u, ac.tmps.getD 36 undef = u := ⟨_, rfl⟩
        obtain ⟨u37, f37⟩ : ∃ u, ac.tmps.getD 37 undef = u := ⟨_, rfl⟩
        obtain ⟨u38, f38⟩ : ∃ u, ac.tmps.getD 38 undef = u := ⟨_, rfl⟩
        obtain ⟨u39, f39⟩ : ∃ u, ac.tmps.getD 39 undef = u := ⟨_, rfl⟩
        obtain ⟨u40, f40⟩ : ∃ u, ac.tmps.getD 40 undef = u := ⟨_, rfl⟩
        obtain ⟨u41, f41⟩ : ∃ u, ac.tmps.getD 41 undef = u := ⟨_, rfl⟩
        obtain ⟨u42, f42⟩ : ∃ u, ac.tmps.getD 42 undef = u := ⟨_, rfl⟩
        obtain ⟨u43, f43⟩ : ∃ u, ac.tmps.getD 43 undef = u := ⟨_, rfl⟩
        obtain ⟨u44, f44⟩ : ∃ u, ac.tmps.getD 44 undef = u := ⟨_, rfl⟩
        obtain ⟨u45, f45⟩ : ∃ u, ac.tmps.getD 45 undef = u := ⟨_, rfl⟩
        obtain ⟨u46, f46⟩ : ∃ u, ac.tmps.getD 46 undef = u := ⟨_, rfl⟩
        obtain ⟨u47, f47⟩ : ∃ u, ac.tmps.getD 47 undef = u := ⟨_, rfl⟩
        obtain ⟨u48, f48⟩ : ∃ u, ac.tmps.getD 48 undef = u := ⟨_, rfl⟩
        obtain ⟨u49, f49⟩ : ∃ u, ac.tmps.getD 49 undef = u := ⟨_, rfl⟩
        obtain ⟨u50, f50⟩ : ∃ u, ac.tmps.getD 50 undef = u := ⟨_, rfl⟩
        obtain ⟨u51, f51⟩ : ∃ u, ac.tmps.getD 51 undef = u := ⟨_, rfl⟩
        obtain ⟨u52, f52⟩ : ∃ u, ac.tmps.getD 52 undef = u := ⟨_, rfl⟩
        obtain ⟨u53, f53⟩ : ∃ u, ac.tmps.getD 53 undef = u := ⟨_, rfl⟩
        obtain ⟨u54, f54⟩ : ∃ u, ac.tmps.getD 54 undef = u := ⟨_, rfl⟩
        have f55 : ac.tmps.getD 55 undef = .string ⟨#[]⟩ := hvals 0 (by decide)
        have f56 : ac.tmps.getD 56 undef = .string ⟨#[]⟩ := hvals 1 (by decide)
        have f57 : ac.tmps.getD 57 undef = .bool true := hvals 2 (by decide)
        have f58 : ac.tmps.getD 58 undef = .bool true := hvals 3 (by decide)
        have f59 : ac.tmps.getD 59 undef = .int .i64 38 := hvals 4 (by decide)
        have f60 : ac.tmps.getD 60 undef = .bool false := hvals 5 (by decide)
        have f61 : ac.tmps.getD 61 undef = .bool false := hvals 6 (by decide)
        have f62 : ac.tmps.getD 62 undef = .bool true := hvals 7 (by decide)
        have f63 : ac.tmps.getD 63 undef = .bool true := hvals 8 (by decide)
        have f64 : ac.tmps.getD 64 undef = .bool true := hvals 9 (by decide)
        have f65 : ac.tmps.getD 65 undef = .bool false := hvals 10 (by decide)
        have f66 : ac.tmps.getD 66 undef = .bool false := hvals 11 (by decide)
        have f67 : ac.tmps.getD 67 undef = .int .i64 38 := hvals 12 (by decide)
        have f68 : ac.tmps.getD 68 undef = .bool true := hvals 13 (by decide)
        have f69 : ac.tmps.getD 69 undef = .bool true := hvals 14 (by decide)
        have f70 : ac.tmps.getD 70 undef = .bool true := hvals 15 (by decide)
        have f71 : ac.tmps.getD 71 undef = .bool true := hvals 16 (by decide)
        have f72 : ac.tmps.getD 72 undef = .string (strB p) := hvals 17 (by decide)
        obtain ⟨u73, f73⟩ : ∃ u, ac.tmps.getD 73 undef = u := ⟨_, rfl⟩
        have f74 : ac.tmps.getD 74 undef = .bool rb := hvals 19 (by decide)
        have f75 : ac.tmps.getD 75 undef = .string (strB p) := hvals 20 (by decide)
        obtain ⟨u76, f76⟩ : ∃ u, ac.tmps.getD 76 undef = u := ⟨_, rfl⟩
        have f77 : ac.tmps.getD 77 undef = .bool true := hvals 22 (by decide)
        have f78 : ac.tmps.getD 78 undef = .bool true := hvals 23 (by decide)
        have f79 : ac.tmps.getD 79 undef = .bool true := hvals 24 (by decide)
        have f80 : ac.tmps.getD 80 undef = .string (strB p) := hvals 25 (by decide)
        obtain ⟨u81, f81⟩ : ∃ u, ac.tmps.getD 81 undef = u := ⟨_, rfl⟩
        have f82 : ac.tmps.getD 82 undef = .string (strB pp) := hvals 27 (by decide)
        have f83 : ac.tmps.getD 83 undef = .bool true := hvals 28 (by decide)
        have f84 : ac.tmps.getD 84 undef = .bool true := hvals 29 (by decide)
        have f85 : ac.tmps.getD 85 undef = .bool true := hvals 30 (by decide)
        have f86 : ac.tmps.getD 86 undef = .string (strB p) := hvals 31 (by decide)
        obtain ⟨u87, f87⟩ : ∃ u, ac.tmps.getD 87 undef = u := ⟨_, rfl⟩
        have f88 : ac.tmps.getD 88 undef = .string (strB bp) := hvals 33 (by decide)
        have f89 : ac.tmps.getD 89 undef = .bool true := hvals 34 (by decide)
        have f90 : ac.tmps.getD 90 undef = .bool true := hvals 35 (by decide)
        have f91 : ac.tmps.getD 91 undef = .bool true := hvals 36 (by decide)
        have f92 : ac.tmps.getD 92 undef = .string (strB p) := hvals 37 (by decide)
        have f93 : ac.tmps.getD 93 undef = .string (strB q) := hvals 38 (by decide)
        obtain ⟨u94, f94⟩ : ∃ u, ac.tmps.getD 94 undef = u := ⟨_, rfl⟩
        have f95 : ac.tmps.getD 95 undef = .string (strB J) := hvals 40 (by decide)
        have f96 : ac.tmps.getD 96 undef = .bool true := hvals 41 (by decide)
        have f97 : ac.tmps.getD 97 undef = .bool true := hvals 42 (by decide)
        have f98 : ac.tmps.getD 98 undef = .bool true := hvals 43 (by decide)
        have f99 : ac.tmps.getD 99 undef = .string (strB p) := hvals 44 (by decide)
        have f100 : ac.tmps.getD 100 undef = .string (strB q) := hvals 45 (by decide)
        obtain ⟨u101, f101⟩ : ∃ u, ac.tmps.getD 101 undef = u := ⟨_, rfl⟩
        have f102 : ac.tmps.getD 102 undef = .string (strB p) := hvals 47 (by decide)
        have f103 : ac.tmps.getD 103 undef = .string (strB q) := hvals 48 (by decide)
        obtain ⟨u104, f104⟩ : ∃ u, ac.tmps.getD 104 undef = u := ⟨_, rfl⟩
        have f105 : ac.tmps.getD 105 undef = .bool true := hvals 50 (by decide)
        have f106 : ac.tmps.getD 106 undef = .bool true := hvals 51 (by decide)
        have f107 : ac.tmps.getD 107 undef = .bool true := hvals 52 (by decide)
        have f108 : ac.tmps.getD 108 undef = .string (strB p) := hvals 53 (by decide)
        have f109 : ac.tmps.getD 109 undef = .string (strB q) := hvals 54 (by decide)
        obtain ⟨u110, f110⟩ : ∃ u, ac.tmps.getD 110 undef = u := ⟨_, rfl⟩
        have f111 : ac.tmps.getD 111 undef = .string (strB p) := hvals 56 (by decide)
        have f112 : ac.tmps.getD 112 undef = .string (strB q) := hvals 57 (by decide)
        obtain ⟨u113, f113⟩ : ∃ u, ac.tmps.getD 113 undef = u := ⟨_, rfl⟩
        have f114 : ac.tmps.getD 114 undef = .bool true := hvals 59 (by decide)
        have f115 : ac.tmps.getD 115 undef = .bool true := hvals 60 (by decide)
        have f116 : ac.tmps.getD 116 undef = .bool true := hvals 61 (by decide)
        have f117 : ac.tmps.getD 117 undef = .string (strB p) := hvals 62 (by decide)
        obtain ⟨u118, f118⟩ : ∃ u, ac.tmps.getD 118 undef = u := ⟨_, rfl⟩
        have f119 : ac.tmps.getD 119 undef = .slice (some ⟨vb, vo, none⟩) N vc := hvals 64 (by decide)
        obtain ⟨u120, f120⟩ : ∃ u, ac.tmps.getD 120 undef = u := ⟨_, rfl⟩
        have f121 : ac.tmps.getD 121 undef = .bool true := hvals 66 (by decide)
        have f122 : ac.tmps.getD 122 undef = .bool true := hvals 67 (by decide)
        have f123 : ac.tmps.getD 123 undef = .string (strB p) := hvals 68 (by decide)
        have f124 : ac.tmps.getD 124 undef = .int .i64 most := hvals 69 (by decide)
        have f125 : ac.tmps.getD 125 undef = .int .i64 (r : Int) := hvals 70 (by decide)
        obtain ⟨u126, f126⟩ : ∃ u, ac.tmps.getD 126 undef = u := ⟨_, rfl⟩
        have f127 : ac.tmps.getD 127 undef = .slice (some ⟨vb, vo, none⟩) N vc := hvals 72 (by decide)
        have f128 : ac.tmps.getD 128 undef = .int .i64 (s : Int) := hvals 73 (by decide)
        have f129 : ac.tmps.getD 129 undef = .slice (some ⟨vb, vo, none⟩) s vc := hvals 74 (by decide)
        obtain ⟨u130, f130⟩ : ∃ u, ac.tmps.getD 130 undef = u := ⟨_, rfl⟩
        have f131 : ac.tmps.getD 131 undef = .bool true := hvals 76 (by decide)
        have hlit : ac = ⟨#[.string (strB p), .string (strB q), .int .i64 most, u3, u4, u5, u6, .string ⟨#[]⟩, .int .i64 38, .string ⟨#[]⟩, .bool false, .string (strB pp), .string (strB bp), .string (strB J), .slice (some ⟨vb, vo, none⟩) N vc, .int .i64 (s : Int), u16, u17, u18, u19, u20, u21, u22, u23, u24, u25, u26, u27, u28, u29, u30, u31, u32, u33, u34, u35, u36, u37, u38, u39, u40, u41, u42, u43, u44, u45, u46, u47, u48, u49, u50, u51, u52, u53, u54, .string ⟨#[]⟩, .string ⟨#[]⟩, .bool true, .bool true, .int .i64 38, .bool false, .bool false, .bool true, .bool true, .bool true, .bool false, .bool false, .int .i64 38, .bool true, .bool true, .bool true, .bool true, .string (strB p), u73, .bool rb, .string (strB p), u76, .bool true, .bool true, .bool true, .string (strB p), u81, .string (strB pp), .bool true, .bool true, .bool true, .string (strB p), u87, .string (strB bp), .bool true, .bool true, .bool true, .string (strB p), .string (strB q), u94, .string (strB J), .bool true, .bool true, .bool true, .string (strB p), .string (strB q), u101, .string (strB p), .string (strB q), u104, .bool true, .bool true, .bool true, .string (strB p), .string (strB q), u110, .string (strB p), .string (strB q), u113, .bool true, .bool true, .bool true, .string (strB p), u118, .slice (some ⟨vb, vo, none⟩) N vc, u120, .bool true, .bool true, .string (strB p), .int .i64 most, .int .i64 (r : Int), u126, .slice (some ⟨vb, vo, none⟩) N vc, .int .i64 (s : Int), .slice (some ⟨vb, vo, none⟩) s vc, u130, .bool true], []⟩ := by
          refine (act_lit hsz hdf).trans ?_
          rw [show List.range _ = [0, 1, 2, 3, 4, 5, 6, 7, 8, 9, 10, 11, 12, 13, 14, 15, 16, 17, 18, 19, 20, 21, 22, 23, 24, 25, 26, 27, 28, 29, 30, 31, 32, 33, 34, 35, 36, 37, 38, 39, 40, 41, 42, 43, 44, 45, 46, 47, 48, 49, 50, 51, 52, 53, 54, 55, 56, 57, 58, 59, 60, 61, 62, 63, 64, 65, 66, 67, 68, 69, 70, 71, 72, 73, 74, 75, 76, 77, 78, 79, 80, 81, 82, 83, 84, 85, 86, 87, 88, 89, 90, 91, 92, 93, 94, 95, 96, 97, 98, 99, 100, 101, 102, 103, 104, 105, 106, 107, 108, 109, 110, 111, 112, 113, 114, 115, 116, 117, 118, 119, 120, 121, 122, 123, 124, 125, 126, 127, 128, 129, 130, 131] from rfl]
          simp only [List.map_cons, List.map_nil, f0, f1, f2, f3, f4, f5, f6, f7, f8, f9, f10, f11, f12, f13, f14, f15, f16, f17, f18, f19, f20, f21, f22, f23, f24, f25, f26, f27, f28, f29, f30, f31, f32, f33, f34, f35, f36, f37, f38, f39, f40, f41, f42, f43, f44, f45, f46, f47, f48, f49, f50, f51, f52, f53, f54, f55, f56, f57, f58, f59, f60, f61, f62, f63, f64, f65, f66, f67, f68, f69, f70, f71, f72, f73, f74, f75, f76, f77, f78, f79, f80, f81, f82, f83, f84, f85, f86, f87, f88, f89, f90, f91, f92, f93, f94, f95, f96, f97, f98, f99, f100, f101, f102, f103, f104, f105, f106, f107, f108, f109, f110, f111, f112, f113, f114, f115, f116, f117, f118, f119, f120, f121, f122, f123, f124, f125, f126, f127, f128, f129, f130, f131]
        clear hvals hsame hdf hsz f0 f1 f2 f3 f4 f5 f6 f7 f8 f9 f10 f11 f12 f13 f14 f15 f16 f17 f18 f19 f20 f21 f22 f23 f24 f25 f26 f27 f28 f29 f30 f31 f32 f33 f34 f35 f36 f37 f38 f39 f40 f41 f42 f43 f44 f45 f46 f47 f48 f49 f50 f51 f52 f53 f54 f55 f56 f57 f58 f59 f60 f61 f62 f63 f64 f65 f66 f67 f68 f69 f70 f71 f72 f73 f74 f75 f76 f77 f78 f79 f80 f81 f82 f83 f84 f85 f86 f87 f88 f89 f90 f91 f92 f93 f94 f95 f96 f97 f98 f99 f100 f101 f102 f103 f104 f105 f106 f107 f108 f109 f110 f111 f112 f113 f114 f115 f116 f117 f118 f119 f120 f121 f122 f123 f124 f125 f126 f127 f128 f129 f130 f131
        subst hlit
        simp only [List.drop_succ_cons, List.drop_zero]
        go_wp2_with fail
        go_ret
        exact ⟨rfl, HE.out.trans' hx⟩
end Go.Proofs.YtajilboimjcfjaaDoor
end

section
/-
  PROVED HERE: 'Rows.PathTellsCardSaid' (the tied card): of every input the law 'coldstorelaw05.PathTells' answers true, and each argument reads behind the call as it read before. No condition but the form's own.
-/
namespace Go.Proofs.YtajilboimjcfjaaDoor.pathTells
open Go.ChangeShapes Go.WideShapes Go.ChangeAt Go.RowKit Go.My
open Go.ChangeMaps (open_string shut_string)
set_option linter.unusedVariables false

theorem own : ownKnob Tryd.prog.godebug = none := by kernel_rfl
theorem laidOut : laidOutB Tryd.prog = true := by kernel_rfl

/-- what the row lists -/
noncomputable def laid : List (String × DataW Unit) := Rows.pathTellsRow.laid
set_option maxRecDepth 100000 in
theorem lifted (os : Os) (started : os.Started) (H : Type) (enc : TypeId × Value → H) :
    ReturnsInHanded {} Tryd.checked os 3 .any (fun w args => (Rows.pathTellsSpec.pre enc Tryd.prog Tryd.f3 [] false w args ∧ laidMetH Tryd.prog laid w) ∧ sizedMet enc Tryd.prog Tryd.f3 (OpenSpec.ofChange Rows.pathTellsSpec) false w args)
      (Rows.pathTellsSpec.post enc Tryd.prog Tryd.f3 false true false false) := by
  refine returnsInHanded_of_change_and (C := Tryd.checked) (X := fun w _ => laidMetH Tryd.prog laid w) (fun _ _ _ hh h => h.of_heap hh) own started (by kernel_rfl) Tryd.func3
    (ChangeSpec.witness_shaped (enc := enc) (C := Tryd.checked) (os := os) (X := fun w _ => laidMetH Tryd.prog laid w) false (World.laidAll Tryd.prog os laid) #[.string ⟨#[]⟩, .string ⟨#[]⟩, .int .i64 0] 8 (World.laidAll_os _ _ _)
      (World.shaped_of_ZipB (by kernel_rfl) (by kernel_rfl)) (by kernel_rfl) (by kernel_rfl) (by kernel_rfl)
      (by rw [MakeChecks.laidMetH_plain _ _ _ (by kernel_rfl)]; exact laidMet_laidAll _ (by kernel_rfl) (by kernel_rfl))) ?_
  intro W base args ds gs before hval0 hW _ _ hL _
  have hval : ∀ (j : Nat) t v, Tryd.f3.params[j]? = some t → args[j]? = some v → Value.okWide Tryd.prog W .any base t v := hval0
  have hW' := hW
  obtain ⟨p, q, hA0, hV, rfl, hfz, hnd⟩ := hW
  have hA : DataW.TrodAll enc Tryd.prog W 0 (fun _ => true) true Tryd.f3.params.toList args.toList ds p := hA0
  rw [Tryd.params3] at hA hval
  obtain ⟨v0, vs0, d0, ds0, p0, q0, hargs, rfl, rfl, h0, r0⟩ := trodAll_cons hA
  obtain ⟨v1, vs1, d1, ds1, p1, q1, rfl, rfl, rfl, h1, r1⟩ := trodAll_cons r0
  obtain ⟨v2, vs2, d2, ds2, p2, q2, rfl, rfl, rfl, h2, r2⟩ := trodAll_cons r1
  obtain ⟨rfl, rfl, rfl⟩ := trodAll_nil r2
  obtain rfl : args = #[v0, v1, v2] := by cases args; simp_all
  obtain ⟨rfl, rfl⟩ := trodVars_none hV
  have k0 := h0
  have lt0 : ∀ x ∈ p0, x.block < W.heap.size := by obtain ⟨m, hm⟩ := k0; exact DataW.trod_lt m _ _ _ hm
  have k1 := h1
  have lt1 : ∀ x ∈ p1, x.block < W.heap.size := by obtain ⟨m, hm⟩ := k1; exact DataW.trod_lt m _ _ _ hm
  have k2 := h2
  have lt2 : ∀ x ∈ p2, x.block < W.heap.size := by obtain ⟨m, hm⟩ := k2; exact DataW.trod_lt m _ _ _ hm
  obtain ⟨a0, rfl, le0⟩ := op_str Tryd.underlying9 (hval 0 9 v0 rfl rfl) h0
  obtain ⟨a1, rfl, le1⟩ := op_str Tryd.underlying9 (hval 1 9 v1 rfl rfl) h1
  obtain ⟨a2, rfl, lo2, hi2⟩ := op_i64 Tryd.underlying3 (hval 2 3 v2 rfl rfl) h2
  clear hA0 hval0
  refine (pathTells_fr a0 a1 a2 W le0 le1 lo2 hi2).mono fun e W' ⟨he, ext⟩ => ?_
  subst he
  have bel := ext.below
  exact ⟨_, rfl, _, _, _, [], _, [], hW', trodAll_mk1 (shut_bool Tryd.underlying4 _), (trodAll_cons_mk (Below.trod laidOut (by kernel_rfl) (of_decide_eq_true (by kernel_rfl)) k0 bel lt0) (trodAll_cons_mk (Below.trod laidOut (by kernel_rfl) (of_decide_eq_true (by kernel_rfl)) k1 bel lt1) (trodAll_cons_mk (Below.trod laidOut (by kernel_rfl) (of_decide_eq_true (by kernel_rfl)) k2 bel lt2) trodAll_mk0))), rfl, bel.frame _, fun h => by cases h⟩

theorem over : Rows.pathTellsRow.holds Tryd.pinned (OpenSpec.ofChange Rows.pathTellsSpec) :=
  OpenClaim.holds_of_wide 3 Tryd.f3 rfl rfl rfl rfl rfl rfl rfl ⟨rfl, rfl, rfl, rfl, rfl⟩ rfl rfl rfl rfl rfl (by kernel_rfl) Tryd.func3 (by kernel_rfl)
    (of_decide_eq_true (by kernel_rfl)) (by unfold Func.isWrapper; first | (rw [if_pos (by decide +kernel)]; kernel_rfl) | (rw [if_neg (by decide +kernel)]; exact ⟨rfl, rfl⟩))
    (fun os started H enc _ => lifted os started H enc)

/-- THE STATEMENT: the card over the row, tied to the program's text -/
theorem proved : Rows.PathTellsCardSaid :=
  Claim7.holds_tied_plain_at .later [] [.data, .pinned] true (true, "0ea52a9c6a5f6601e2c5d4469c0ca288f1816747c971d0c94f5de6128d0903f0") true over (fun _ h => by cases h) (by kernel_rfl) (fun _ h => by cases h) pathTells_row_tie rfl ⟨rfl, rfl⟩ (by kernel_rfl) rfl
    (fun f fn hf hfn => by
      obtain rfl : f = 3 := Option.some.inj ((show Tryd.prog.funcNamed "coldstore/coldstorelaw05.PathTells" = some 3 by kernel_rfl).symm.trans hf) |>.symm
      obtain rfl : fn = Tryd.f3 := (Option.some.inj (Tryd.func3.symm.trans hfn)).symm
      exact ⟨by kernel_rfl, fun j t ht => by
        rw [Tryd.params3] at ht
        have hm : t ∈ [9, 9, 3] := by simpa using Array.mem_of_getElem? ht
        have hall : ([9, 9, 3].all fun u => !Tryd.prog.wantsStandIn u) = true := by kernel_rfl
        exact (show Tryd.prog.wantsStandIn t = false by simpa using List.all_eq_true.1 hall t hm)⟩)
    (by kernel_rfl)
#print axioms proved
end Go.Proofs.YtajilboimjcfjaaDoor.pathTells
end
