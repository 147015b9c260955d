/- The program's types, as the abstract interpreter looks at them. -/
import Derived.Test.YtfpmfjibbhedoaaProg
import Derived.Test.YtfpmfjibbhedoaaAbFn
namespace Go.YtfpmfjibbhedoaaTy
open Go.Ab Go.Proofs
set_option maxRecDepth 100000
def Δ0 : Tys := [(3, ⟨.int .i64, 1, 8, some (.int .i64)⟩),
  (4, ⟨.bool, 1, 1, some (.bool)⟩),
  (5, ⟨.int .u8, 1, 1, some (.int .u8)⟩),
  (9, ⟨.str, 1, 16, some (.str)⟩),
  (24, ⟨.slice 5, 1, 24, some (.slice (.int .u8))⟩),
  (26, ⟨.struct [(0, 3), (1, 3), (2, 3), (3, 9), (4, 24)], 5, 64, some (.pair (.int .i64) (.pair (.int .i64) (.pair (.int .i64) (.pair (.str) (.pair (.slice (.int .u8)) (.unit))))))⟩),
  (27, ⟨.slice 26, 1, 24, some (.slice (.pair (.int .i64) (.pair (.int .i64) (.pair (.int .i64) (.pair (.str) (.pair (.slice (.int .u8)) (.unit)))))))⟩),
  (28, ⟨.int .i64, 1, 8, some (.int .i64)⟩),
  (32, ⟨.slice 42, 1, 24, some (.slice (.pair (.int .i64) (.pair (.int .u64) (.unit))))⟩),
  (33, ⟨.int .u64, 1, 8, some (.int .u64)⟩),
  (34, ⟨.slice 3, 1, 24, some (.slice (.int .i64))⟩),
  (38, ⟨.slice 44, 1, 24, some (.slice (.pair (.int .u64) (.pair (.int .i64) (.unit))))⟩),
  (42, ⟨.struct [(0, 3), (1, 33)], 2, 16, some (.pair (.int .i64) (.pair (.int .u64) (.unit)))⟩),
  (44, ⟨.struct [(0, 33), (1, 3)], 2, 16, some (.pair (.int .u64) (.pair (.int .i64) (.unit)))⟩),
  (49, ⟨.slice 24, 1, 24, some (.slice (.slice (.int .u8)))⟩),
  (57, ⟨.ptr 89, 1, 8, none⟩),
  (64, ⟨.slice 69, 1, 24, some (.slice (.pair (.str) (.pair (.str) (.pair (.slice (.pair (.str) (.pair (.str) (.unit)))) (.pair (.slice (.str)) (.pair (.bool) (.pair (.str) (.pair (.int .i64) (.pair (.int .u64) (.pair (.int .u64) (.pair (.int .u64) (.pair (.int .i64) (.pair (.int .u64) (.pair (.slice (.pair (.int .i64) (.pair (.int .u64) (.unit)))) (.pair (.int .i64) (.pair (.int .i64) (.unit)))))))))))))))))⟩),
  (66, ⟨.slice 102, 1, 24, some (.slice (.pair (.str) (.pair (.str) (.unit))))⟩),
  (67, ⟨.slice 9, 1, 24, some (.slice (.str))⟩),
  (69, ⟨.struct [(0, 9), (1, 9), (2, 66), (3, 67), (4, 4), (5, 9), (6, 3), (7, 33), (8, 33), (9, 33), (10, 3), (11, 33), (12, 32), (13, 3), (14, 3)], 15, 192, some (.pair (.str) (.pair (.str) (.pair (.slice (.pair (.str) (.pair (.str) (.unit)))) (.pair (.slice (.str)) (.pair (.bool) (.pair (.str) (.pair (.int .i64) (.pair (.int .u64) (.pair (.int .u64) (.pair (.int .u64) (.pair (.int .i64) (.pair (.int .u64) (.pair (.slice (.pair (.int .i64) (.pair (.int .u64) (.unit)))) (.pair (.int .i64) (.pair (.int .i64) (.unit))))))))))))))))⟩),
  (70, ⟨.array 2 64, 2, 48, some (.pair (.slice (.pair (.str) (.pair (.str) (.pair (.slice (.pair (.str) (.pair (.str) (.unit)))) (.pair (.slice (.str)) (.pair (.bool) (.pair (.str) (.pair (.int .i64) (.pair (.int .u64) (.pair (.int .u64) (.pair (.int .u64) (.pair (.int .i64) (.pair (.int .u64) (.pair (.slice (.pair (.int .i64) (.pair (.int .u64) (.unit)))) (.pair (.int .i64) (.pair (.int .i64) (.unit))))))))))))))))) (.pair (.slice (.pair (.str) (.pair (.str) (.pair (.slice (.pair (.str) (.pair (.str) (.unit)))) (.pair (.slice (.str)) (.pair (.bool) (.pair (.str) (.pair (.int .i64) (.pair (.int .u64) (.pair (.int .u64) (.pair (.int .u64) (.pair (.int .i64) (.pair (.int .u64) (.pair (.slice (.pair (.int .i64) (.pair (.int .u64) (.unit)))) (.pair (.int .i64) (.pair (.int .i64) (.unit))))))))))))))))) (.unit)))⟩),
  (71, ⟨.slice 70, 1, 24, some (.slice (.pair (.slice (.pair (.str) (.pair (.str) (.pair (.slice (.pair (.str) (.pair (.str) (.unit)))) (.pair (.slice (.str)) (.pair (.bool) (.pair (.str) (.pair (.int .i64) (.pair (.int .u64) (.pair (.int .u64) (.pair (.int .u64) (.pair (.int .i64) (.pair (.int .u64) (.pair (.slice (.pair (.int .i64) (.pair (.int .u64) (.unit)))) (.pair (.int .i64) (.pair (.int .i64) (.unit))))))))))))))))) (.pair (.slice (.pair (.str) (.pair (.str) (.pair (.slice (.pair (.str) (.pair (.str) (.unit)))) (.pair (.slice (.str)) (.pair (.bool) (.pair (.str) (.pair (.int .i64) (.pair (.int .u64) (.pair (.int .u64) (.pair (.int .u64) (.pair (.int .i64) (.pair (.int .u64) (.pair (.slice (.pair (.int .i64) (.pair (.int .u64) (.unit)))) (.pair (.int .i64) (.pair (.int .i64) (.unit))))))))))))))))) (.unit))))⟩),
  (73, ⟨.slice 78, 1, 24, some (.slice (.pair (.str) (.pair (.int .i64) (.unit))))⟩),
  (78, ⟨.struct [(0, 9), (1, 3)], 2, 24, some (.pair (.str) (.pair (.int .i64) (.unit)))⟩),
  (82, ⟨.int .u32, 1, 4, some (.int .u32)⟩),
  (89, ⟨.struct [(0, 34), (1, 3)], 2, 32, some (.pair (.slice (.int .i64)) (.pair (.int .i64) (.unit)))⟩),
  (90, ⟨.ptr 69, 1, 8, none⟩),
  (102, ⟨.struct [(0, 9), (1, 9)], 2, 32, some (.pair (.str) (.pair (.str) (.unit)))⟩),
  (108, ⟨.struct [(0, 28), (1, 3), (2, 3)], 3, 24, some (.pair (.int .i64) (.pair (.int .i64) (.pair (.int .i64) (.unit))))⟩),
  (113, ⟨.slice 120, 1, 24, some (.slice (.pair (.int .i64) (.pair (.str) (.pair (.int .i64) (.pair (.int .i64) (.unit))))))⟩),
  (116, ⟨.ptr 118, 1, 8, none⟩),
  (118, ⟨.struct [(0, 113), (1, 3), (2, 108), (5, 67)], 6, 80, some (.pair (.slice (.pair (.int .i64) (.pair (.str) (.pair (.int .i64) (.pair (.int .i64) (.unit)))))) (.pair (.int .i64) (.pair (.pair (.int .i64) (.pair (.int .i64) (.pair (.int .i64) (.unit)))) (.pair (.slice (.str)) (.unit)))))⟩),
  (120, ⟨.struct [(0, 3), (1, 9), (2, 3), (3, 3)], 4, 40, some (.pair (.int .i64) (.pair (.str) (.pair (.int .i64) (.pair (.int .i64) (.unit)))))⟩)]
theorem tys : TysOk Try.prog Δ0 := tysOk_of (by kernel_rfl)
theorem mixed : Try.prog.follows .mixedOrders = true := by kernel_rfl
end Go.YtfpmfjibbhedoaaTy
