import Derived.Test.YtgallgjldfabfaaBSym
import Derived.Test.YtgallgjldfabfaaBExt
import Derived.Test.YtgallgjldfabfaaGB
import Derived.Test.YtgallgjldfabfaaChecked
import Derived.KernelRfl
namespace Go.Proofs.Ytgallgjldfabfaa.G
open Go.BX

/-! # The program's tables, printed by program (XGen.lean), each row asked of the kernel -/

def good : List Nat := [1, 2, 3, 4, 5, 6, 7, 8, 9, 10, 11, 12, 13, 14, 15, 16, 17, 18, 19, 20, 21, 22, 23, 24, 25, 26, 27, 29, 30, 31, 32, 33, 34, 35, 36, 37, 38, 39, 40, 41, 42, 43, 44, 46, 47, 48, 49, 50, 51, 52, 53, 54, 55, 57, 59, 60, 61, 62, 63, 64, 65, 66, 68, 70, 72, 73, 74, 75, 77, 78, 79, 80, 81, 82, 83, 84, 85, 86, 89, 90, 91, 92, 93, 94, 95, 96]
def pureL : List Nat := [2, 3, 4, 5, 6, 7, 8, 9, 10, 13, 14, 15, 18, 19, 26, 28, 30, 36, 38, 44]
def extF : FuncId → Option (List AV → AHeap → Option (AV × AHeap))
  | 27 => some (copyG 42)
  | 16 => some (strG 42 5)
  | _ => none
noncomputable def Cx : Ctx := ctxOf Try.prog good (fun f => pureL.contains f) extF
theorem good_ok : good.all (tiCheck Try.prog good) = true := by kernel_rfl
theorem mixed : Try.prog.follows .mixedOrders = true := by kernel_rfl
theorem extOk : ExtOk Cx := by
  constructor
  · intro f g args H r H' hf hg
    change extF f = some g at hf
    unfold extF at hf
    split at hf <;> first | (cases hf; done) | skip
    · cases hf; exact copyG_mono hg
    · cases hf; exact strG_mono hg
  · intro f g args H r H' hf hg w U ι vs hH ha
    change extF f = some g at hf
    unfold extF at hf
    split at hf <;> first | (cases hf; done) | skip
    · cases hf; exact ccheck_sound builderLaws hg hH ha
    · cases hf; exact str_sound builderLaws hg hH ha
theorem cok : COk Cx := cOk_of good_ok extOk mixed
theorem noext (f : FuncId) (h : extF f = none := by rfl) : Cx.ext f = none := h

theorem TT_3 : Cx.TT 3 = some { kind := .int .i64, size := 1, bytes := 8, zero := [.int .i64 0], eqk := (some [.int .i64]) } := by kernel_rfl
theorem TT_4 : Cx.TT 4 = some { kind := .bool, size := 1, bytes := 1, zero := [.bool false], eqk := (some [.bool]) } := by kernel_rfl
theorem TT_5 : Cx.TT 5 = some { kind := .int .u8, size := 1, bytes := 1, zero := [.int .u8 0], eqk := (some [.int .u8]) } := by kernel_rfl
theorem TT_9 : Cx.TT 9 = some { kind := .str, size := 1, bytes := 16, zero := [.str []], eqk := (some [.str]) } := by kernel_rfl
theorem TT_22 : Cx.TT 22 = some { kind := .slice 38, size := 1, bytes := 24, zero := [.nilS], eqk := none } := by kernel_rfl
theorem TT_27 : Cx.TT 27 = some { kind := .int .i64, size := 1, bytes := 8, zero := [.int .i64 0], eqk := (some [.int .i64]) } := by kernel_rfl
theorem TT_34 : Cx.TT 34 = some { kind := .struct [(3, 0), (3, 1)], size := 2, bytes := 16, zero := [.int .i64 0, .int .i64 0], eqk := (some [.int .i64, .int .i64]) } := by kernel_rfl
theorem TT_36 : Cx.TT 36 = some { kind := .struct [(3, 0), (3, 1), (9, 2), (34, 3)], size := 5, bytes := 48, zero := [.int .i64 0, .int .i64 0, .str [], .int .i64 0, .int .i64 0], eqk := (some [.int .i64, .int .i64, .str, .int .i64, .int .i64]) } := by kernel_rfl
theorem TT_38 : Cx.TT 38 = some { kind := .struct [(9, 0), (36, 1)], size := 6, bytes := 64, zero := [.str [], .int .i64 0, .int .i64 0, .str [], .int .i64 0, .int .i64 0], eqk := (some [.str, .int .i64, .int .i64, .str, .int .i64, .int .i64]) } := by kernel_rfl
theorem TT_39 : Cx.TT 39 = some { kind := .ptr, size := 1, bytes := 8, zero := [.nilP], eqk := none } := by kernel_rfl
theorem TT_40 : Cx.TT 40 = some { kind := .slice 5, size := 1, bytes := 24, zero := [.nilS], eqk := none } := by kernel_rfl
theorem TT_42 : Cx.TT 42 = some { kind := .struct [(39, 0), (40, 1)], size := 2, bytes := 32, zero := [.nilP, .nilS], eqk := none } := by kernel_rfl
theorem TT_54 : Cx.TT 54 = some { kind := .ptr, size := 1, bytes := 8, zero := [.nilP], eqk := none } := by kernel_rfl
theorem TT_66 : Cx.TT 66 = some { kind := .struct [(9, 0), (3, 1)], size := 2, bytes := 24, zero := [.str [], .int .i64 0], eqk := (some [.str, .int .i64]) } := by kernel_rfl

end Go.Proofs.Ytgallgjldfabfaa.G
