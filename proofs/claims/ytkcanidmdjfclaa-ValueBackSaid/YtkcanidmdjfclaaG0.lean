import Derived.Test.YtkcanidmdjfclaaBSym
import Derived.Test.YtkcanidmdjfclaaBExt
import Derived.Test.YtkcanidmdjfclaaGB
import Derived.Test.YtkcanidmdjfclaaChecked
import Derived.KernelRfl
namespace Go.Proofs.Ytkcanidmdjfclaa.G
open Go.BX

/-! # The program's tables, printed by program (XGen.lean), each row asked of the kernel -/

def good : List Nat := [1, 2, 3, 4, 5, 6, 7, 8, 9, 10, 11, 12, 13, 14, 15, 16, 17, 18, 19, 20, 21, 22, 23, 24, 25, 26, 27, 28, 29, 30, 31, 32, 33, 34, 36, 38, 39, 40, 41, 42, 43, 44, 45, 46, 47, 48, 49, 51, 53, 55, 56, 57, 58, 59, 60, 61, 62, 63, 64, 66, 67, 68, 70, 71, 72, 73, 75, 76, 77, 78, 81, 82, 83, 84, 85, 86, 87, 88]
def pureL : List Nat := [2, 3, 4, 5, 6, 7, 8, 9, 10, 11, 12, 13, 14, 15, 18, 20, 21, 22, 23, 24, 25, 26, 27, 28, 29, 30, 31, 32, 33, 34, 35, 36, 41, 42, 43, 44, 45, 46, 48, 52, 53, 56, 58, 54, 59]
def extF : FuncId → Option (List AV → AHeap → Option (AV × AHeap))
  | 54 => some (cmpG)
  | 59 => some (idxG)
  | 55 => some (copyG 61)
  | 50 => some (strG 61 5)
  | _ => none
noncomputable def Cx : Ctx := ctxOf Try.prog good (fun f => pureL.contains f) extF
theorem good_ok : good.all (tiCheck Try.prog good) = true := by kernel_rfl
theorem mixed : Try.prog.follows .mixedOrders = true := by kernel_rfl
theorem isExt54 : IsExt Try.prog 54 Try.f54 Extern.BytealgCompare.compare := ⟨Try.func54, by kernel_rfl, by kernel_rfl, by kernel_rfl, by kernel_rfl⟩
theorem isExt59 : IsExt Try.prog 59 Try.f59 Extern.BytealgIndexByte.indexByte := ⟨Try.func59, by kernel_rfl, by kernel_rfl, by kernel_rfl, by kernel_rfl⟩
theorem extOk : ExtOk Cx := by
  constructor
  · intro f g args H r H' hf hg
    change extF f = some g at hf
    unfold extF at hf
    split at hf <;> first | (cases hf; done) | skip
    · cases hf; exact cmpG_mono hg
    · cases hf; exact idxG_mono hg
    · cases hf; exact copyG_mono hg
    · cases hf; exact strG_mono hg
  · intro f g args H r H' hf hg w U ι vs hH ha
    change extF f = some g at hf
    unfold extF at hf
    split at hf <;> first | (cases hf; done) | skip
    · cases hf; exact cmp_sound isExt54 hg hH ha
    · cases hf; exact idx_sound isExt59 hg hH ha
    · cases hf; exact ccheck_sound builderLaws hg hH ha
    · cases hf; exact str_sound builderLaws hg hH ha
theorem cok : COk Cx := cOk_of good_ok extOk mixed
theorem noext (f : FuncId) (h : extF f = none := by rfl) : Cx.ext f = none := h

theorem TT_3 : Cx.TT 3 = some { kind := .int .i64, size := 1, bytes := 8, zero := [.int .i64 0], eqk := (some [.int .i64]) } := by kernel_rfl
theorem TT_4 : Cx.TT 4 = some { kind := .bool, size := 1, bytes := 1, zero := [.bool false], eqk := (some [.bool]) } := by kernel_rfl
theorem TT_5 : Cx.TT 5 = some { kind := .int .u8, size := 1, bytes := 1, zero := [.int .u8 0], eqk := (some [.int .u8]) } := by kernel_rfl
theorem TT_9 : Cx.TT 9 = some { kind := .str, size := 1, bytes := 16, zero := [.str []], eqk := (some [.str]) } := by kernel_rfl
theorem TT_23 : Cx.TT 23 = some { kind := .struct [(3, 0), (3, 1)], size := 2, bytes := 16, zero := [.int .i64 0, .int .i64 0], eqk := (some [.int .i64, .int .i64]) } := by kernel_rfl
theorem TT_24 : Cx.TT 24 = some { kind := .struct [(3, 0), (3, 1), (9, 2), (23, 3)], size := 5, bytes := 48, zero := [.int .i64 0, .int .i64 0, .str [], .int .i64 0, .int .i64 0], eqk := (some [.int .i64, .int .i64, .str, .int .i64, .int .i64]) } := by kernel_rfl
theorem TT_25 : Cx.TT 25 = some { kind := .struct [(3, 0), (3, 1), (9, 2), (23, 3)], size := 5, bytes := 48, zero := [.int .i64 0, .int .i64 0, .str [], .int .i64 0, .int .i64 0], eqk := (some [.int .i64, .int .i64, .str, .int .i64, .int .i64]) } := by kernel_rfl
theorem TT_32 : Cx.TT 32 = some { kind := .ptr, size := 1, bytes := 8, zero := [.nilP], eqk := none } := by kernel_rfl
theorem TT_34 : Cx.TT 34 = some { kind := .int .i64, size := 1, bytes := 8, zero := [.int .i64 0], eqk := (some [.int .i64]) } := by kernel_rfl
theorem TT_49 : Cx.TT 49 = some { kind := .struct [(9, 0), (3, 1)], size := 2, bytes := 24, zero := [.str [], .int .i64 0], eqk := (some [.str, .int .i64]) } := by kernel_rfl
theorem TT_51 : Cx.TT 51 = some { kind := .func, size := 1, bytes := 8, zero := [.nilF], eqk := none } := by kernel_rfl
theorem TT_57 : Cx.TT 57 = some { kind := .slice 3, size := 1, bytes := 24, zero := [.nilS], eqk := none } := by kernel_rfl
theorem TT_58 : Cx.TT 58 = some { kind := .slice 5, size := 1, bytes := 24, zero := [.nilS], eqk := none } := by kernel_rfl
theorem TT_59 : Cx.TT 59 = some { kind := .ptr, size := 1, bytes := 8, zero := [.nilP], eqk := none } := by kernel_rfl
theorem TT_61 : Cx.TT 61 = some { kind := .struct [(59, 0), (58, 1)], size := 2, bytes := 32, zero := [.nilP, .nilS], eqk := none } := by kernel_rfl

end Go.Proofs.Ytkcanidmdjfclaa.G
