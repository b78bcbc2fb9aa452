import Derived.Test.YtmbagennmeahhaaBSym
import Derived.Test.YtmbagennmeahhaaBExt
import Derived.Test.YtmbagennmeahhaaChecked
import Derived.KernelRfl
namespace Go.Proofs.Ytmbagennmeahhaa.G
open Go.BX

/-! # The program's tables, printed by program (XGen.lean), each row asked of the kernel -/

def good : List Nat := [1, 2, 3, 4, 5, 6, 7, 8, 9, 10, 11, 12, 13, 14, 15, 16, 17, 18, 19, 20, 21, 22, 23, 24, 25, 26, 27, 28, 29, 30, 31, 32, 33, 34, 35, 36, 37, 38, 39, 40, 41, 42, 43, 44, 45, 46, 47, 48, 49, 50, 51, 52, 53, 54, 55, 56, 57, 60, 61, 62, 63, 64, 65, 66, 67, 68, 69]
def pureL : List Nat := [2, 3, 4, 5, 6, 7, 8, 9, 10, 13, 16, 21, 25]
def extF : FuncId → Option (List AV → AHeap → Option (AV × AHeap))
  | _ => none
noncomputable def Cx : Ctx := ctxOf Try.prog good (fun f => pureL.contains f) extF
theorem good_ok : good.all (tiCheck Try.prog good) = true := by kernel_rfl
theorem mixed : Try.prog.follows .mixedOrders = true := by kernel_rfl
theorem extOk : ExtOk Cx := by
  constructor
  · intro f g args H r H' hf hg
    cases hf
  · intro f g args H r H' hf hg w U ι vs hH ha
    cases hf
theorem cok : COk Cx := cOk_of good_ok extOk mixed
theorem noext (f : FuncId) (h : extF f = none := by rfl) : Cx.ext f = none := h

theorem TT_3 : Cx.TT 3 = some { kind := .int .i64, size := 1, bytes := 8, zero := [.int .i64 0], eqk := (some [.int .i64]) } := by kernel_rfl
theorem TT_4 : Cx.TT 4 = some { kind := .bool, size := 1, bytes := 1, zero := [.bool false], eqk := (some [.bool]) } := by kernel_rfl
theorem TT_5 : Cx.TT 5 = some { kind := .int .u8, size := 1, bytes := 1, zero := [.int .u8 0], eqk := (some [.int .u8]) } := by kernel_rfl
theorem TT_9 : Cx.TT 9 = some { kind := .str, size := 1, bytes := 16, zero := [.str []], eqk := (some [.str]) } := by kernel_rfl
theorem TT_22 : Cx.TT 22 = some { kind := .slice 28, size := 1, bytes := 24, zero := [.nilS], eqk := none } := by kernel_rfl
theorem TT_24 : Cx.TT 24 = some { kind := .struct [(3, 0), (3, 1)], size := 2, bytes := 16, zero := [.int .i64 0, .int .i64 0], eqk := (some [.int .i64, .int .i64]) } := by kernel_rfl
theorem TT_26 : Cx.TT 26 = some { kind := .struct [(3, 0), (3, 1), (9, 2), (24, 3)], size := 5, bytes := 48, zero := [.int .i64 0, .int .i64 0, .str [], .int .i64 0, .int .i64 0], eqk := (some [.int .i64, .int .i64, .str, .int .i64, .int .i64]) } := by kernel_rfl
theorem TT_28 : Cx.TT 28 = some { kind := .struct [(9, 0), (26, 1)], size := 6, bytes := 64, zero := [.str [], .int .i64 0, .int .i64 0, .str [], .int .i64 0, .int .i64 0], eqk := (some [.str, .int .i64, .int .i64, .str, .int .i64, .int .i64]) } := by kernel_rfl
theorem TT_35 : Cx.TT 35 = some { kind := .func, size := 1, bytes := 8, zero := [.nilF], eqk := none } := by kernel_rfl
theorem TT_37 : Cx.TT 37 = some { kind := .slice 26, size := 1, bytes := 24, zero := [.nilS], eqk := none } := by kernel_rfl
theorem TT_43 : Cx.TT 43 = some { kind := .func, size := 1, bytes := 8, zero := [.nilF], eqk := none } := by kernel_rfl
theorem TT_44 : Cx.TT 44 = some { kind := .func, size := 1, bytes := 8, zero := [.nilF], eqk := none } := by kernel_rfl
theorem TT_45 : Cx.TT 45 = some { kind := .slice 22, size := 1, bytes := 24, zero := [.nilS], eqk := none } := by kernel_rfl
theorem TT_53 : Cx.TT 53 = some { kind := .int .u64, size := 1, bytes := 8, zero := [.int .u64 0], eqk := (some [.int .u64]) } := by kernel_rfl

end Go.Proofs.Ytmbagennmeahhaa.G
