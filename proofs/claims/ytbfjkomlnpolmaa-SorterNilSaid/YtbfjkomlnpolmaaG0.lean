import Derived.Test.YtbfjkomlnpolmaaBSym
import Derived.Test.YtbfjkomlnpolmaaBExt
import Derived.Test.YtbfjkomlnpolmaaChecked
import Derived.KernelRfl
namespace Go.Proofs.Ytbfjkomlnpolmaa.G
open Go.BX

/-! # The program's tables, printed by program (XGen.lean), each row asked of the kernel -/

def good : List Nat := [1, 2, 3, 4, 5, 6, 7, 8, 9, 10, 11, 12, 13, 14, 15, 16, 17, 18, 19, 20, 21, 22, 23, 24, 25, 26, 28, 29, 30, 31, 32, 33, 35, 36, 37, 38, 39, 40, 41, 42, 43, 44, 45, 46, 47, 48, 49, 50, 52, 53, 54, 55, 56, 57, 58, 59, 60, 61, 62, 63, 64, 65, 66, 67, 68, 69, 70, 71, 72, 73, 74, 75, 76, 77, 78, 79, 80, 81, 82, 83, 84, 85, 88, 89, 90, 91, 92, 93, 94, 95, 96]
def pureL : List Nat := [2, 3, 4, 5, 6, 7, 8, 9, 12, 16, 17, 18, 19, 21, 22, 24, 25, 28, 29, 32, 35, 36, 37, 39, 44, 45]
def extF : FuncId → Option (List AV → AHeap → Option (AV × AHeap))
  | _ => none
noncomputable def Cx : Ctx := ctxOf Try.prog good (fun f => pureL.contains f) extF
theorem good_ok : good.all (tiCheck Try.prog good) = true := by kernel_rfl
theorem mixed : Try.prog.follows .mixedOrders = true := by kernel_rfl
theorem extOk : ExtOk Cx := by
  constructor
  · intro f g args H r H' hf hg
    cases hf
  · intro f g args H r H' hf hg w U ι vs hH ha
    cases hf
theorem cok : COk Cx := cOk_of good_ok extOk mixed
theorem noext (f : FuncId) (h : extF f = none := by rfl) : Cx.ext f = none := h

theorem TT_3 : Cx.TT 3 = some { kind := .int .i64, size := 1, bytes := 8, zero := [.int .i64 0], eqk := (some [.int .i64]) } := by kernel_rfl
theorem TT_4 : Cx.TT 4 = some { kind := .bool, size := 1, bytes := 1, zero := [.bool false], eqk := (some [.bool]) } := by kernel_rfl
theorem TT_5 : Cx.TT 5 = some { kind := .int .u8, size := 1, bytes := 1, zero := [.int .u8 0], eqk := (some [.int .u8]) } := by kernel_rfl
theorem TT_9 : Cx.TT 9 = some { kind := .str, size := 1, bytes := 16, zero := [.str []], eqk := (some [.str]) } := by kernel_rfl
theorem TT_22 : Cx.TT 22 = some { kind := .slice 42, size := 1, bytes := 24, zero := [.nilS], eqk := none } := by kernel_rfl
theorem TT_25 : Cx.TT 25 = some { kind := .func, size := 1, bytes := 8, zero := [.nilF], eqk := none } := by kernel_rfl
theorem TT_26 : Cx.TT 26 = some { kind := .ptr, size := 1, bytes := 8, zero := [.nilP], eqk := none } := by kernel_rfl
theorem TT_29 : Cx.TT 29 = some { kind := .slice 22, size := 1, bytes := 24, zero := [.nilS], eqk := none } := by kernel_rfl
theorem TT_33 : Cx.TT 33 = some { kind := .int .i64, size := 1, bytes := 8, zero := [.int .i64 0], eqk := (some [.int .i64]) } := by kernel_rfl
theorem TT_38 : Cx.TT 38 = some { kind := .struct [(3, 0), (3, 1)], size := 2, bytes := 16, zero := [.int .i64 0, .int .i64 0], eqk := (some [.int .i64, .int .i64]) } := by kernel_rfl
theorem TT_40 : Cx.TT 40 = some { kind := .struct [(3, 0), (3, 1), (9, 2), (38, 3)], size := 5, bytes := 48, zero := [.int .i64 0, .int .i64 0, .str [], .int .i64 0, .int .i64 0], eqk := (some [.int .i64, .int .i64, .str, .int .i64, .int .i64]) } := by kernel_rfl
theorem TT_42 : Cx.TT 42 = some { kind := .struct [(9, 0), (40, 1)], size := 6, bytes := 64, zero := [.str [], .int .i64 0, .int .i64 0, .str [], .int .i64 0, .int .i64 0], eqk := (some [.str, .int .i64, .int .i64, .str, .int .i64, .int .i64]) } := by kernel_rfl
theorem TT_50 : Cx.TT 50 = some { kind := .func, size := 1, bytes := 8, zero := [.nilF], eqk := none } := by kernel_rfl
theorem TT_57 : Cx.TT 57 = some { kind := .struct [(3, 0), (22, 1), (29, 2), (3, 3)], size := 4, bytes := 64, zero := [.int .i64 0, .nilS, .nilS, .int .i64 0], eqk := none } := by kernel_rfl
theorem TT_59 : Cx.TT 59 = some { kind := .func, size := 1, bytes := 8, zero := [.nilF], eqk := none } := by kernel_rfl
theorem TT_66 : Cx.TT 66 = some { kind := .ptr, size := 1, bytes := 8, zero := [.nilP], eqk := none } := by kernel_rfl
theorem TT_68 : Cx.TT 68 = some { kind := .struct [(22, 0), (3, 1), (3, 2)], size := 3, bytes := 40, zero := [.nilS, .int .i64 0, .int .i64 0], eqk := none } := by kernel_rfl
theorem TT_69 : Cx.TT 69 = some { kind := .func, size := 1, bytes := 8, zero := [.nilF], eqk := none } := by kernel_rfl
theorem TT_70 : Cx.TT 70 = some { kind := .slice 68, size := 1, bytes := 24, zero := [.nilS], eqk := none } := by kernel_rfl
theorem TT_72 : Cx.TT 72 = some { kind := .struct [(70, 0), (69, 1)], size := 2, bytes := 32, zero := [.nilS, .nilF], eqk := none } := by kernel_rfl
theorem TT_81 : Cx.TT 81 = some { kind := .int .u64, size := 1, bytes := 8, zero := [.int .u64 0], eqk := (some [.int .u64]) } := by kernel_rfl

end Go.Proofs.Ytbfjkomlnpolmaa.G
