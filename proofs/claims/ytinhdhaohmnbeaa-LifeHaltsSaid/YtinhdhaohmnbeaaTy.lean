/- The program's types, as the abstract interpreter looks at them. -/
import Derived.Test.YtinhdhaohmnbeaaProg
import Derived.Test.YtinhdhaohmnbeaaAbFn
namespace Go.YtinhdhaohmnbeaaTy
open Go.Ab Go.Proofs
set_option maxRecDepth 100000
def Δ0 : Tys := [(3, ⟨.int .i64, 1, 8, some (.int .i64)⟩),
  (4, ⟨.bool, 1, 1, some (.bool)⟩),
  (5, ⟨.int .u8, 1, 1, some (.int .u8)⟩),
  (9, ⟨.str, 1, 16, some (.str)⟩),
  (22, ⟨.slice 3, 1, 24, some (.slice (.int .i64))⟩),
  (23, ⟨.int .u64, 1, 8, some (.int .u64)⟩),
  (25, ⟨.ptr 58, 1, 8, none⟩),
  (27, ⟨.slice 61, 1, 24, some (.slice (.pair (.str) (.pair (.str) (.unit))))⟩),
  (28, ⟨.slice 9, 1, 24, some (.slice (.str))⟩),
  (29, ⟨.slice 55, 1, 24, some (.slice (.pair (.int .i64) (.pair (.int .u64) (.unit))))⟩),
  (31, ⟨.struct [(0, 9), (1, 9), (2, 27), (3, 28), (4, 4), (5, 9), (6, 3), (7, 23), (8, 23), (9, 23), (10, 3), (11, 23), (12, 29), (13, 3), (14, 3)], 15, 192, some (.pair (.str) (.pair (.str) (.pair (.slice (.pair (.str) (.pair (.str) (.unit)))) (.pair (.slice (.str)) (.pair (.bool) (.pair (.str) (.pair (.int .i64) (.pair (.int .u64) (.pair (.int .u64) (.pair (.int .u64) (.pair (.int .i64) (.pair (.int .u64) (.pair (.slice (.pair (.int .i64) (.pair (.int .u64) (.unit)))) (.pair (.int .i64) (.pair (.int .i64) (.unit))))))))))))))))⟩),
  (33, ⟨.slice 23, 1, 24, some (.slice (.int .u64))⟩),
  (35, ⟨.struct [(0, 3), (1, 3), (2, 3), (3, 23), (4, 33), (5, 23), (6, 4), (7, 3), (8, 4), (9, 4)], 10, 88, some (.pair (.int .i64) (.pair (.int .i64) (.pair (.int .i64) (.pair (.int .u64) (.pair (.slice (.int .u64)) (.pair (.int .u64) (.pair (.bool) (.pair (.int .i64) (.pair (.bool) (.pair (.bool) (.unit)))))))))))⟩),
  (49, ⟨.slice 52, 1, 24, some (.slice (.pair (.int .u64) (.pair (.int .i64) (.unit))))⟩),
  (52, ⟨.struct [(0, 23), (1, 3)], 2, 16, some (.pair (.int .u64) (.pair (.int .i64) (.unit)))⟩),
  (55, ⟨.struct [(0, 3), (1, 23)], 2, 16, some (.pair (.int .i64) (.pair (.int .u64) (.unit)))⟩),
  (58, ⟨.struct [(0, 22), (1, 3)], 2, 32, some (.pair (.slice (.int .i64)) (.pair (.int .i64) (.unit)))⟩),
  (61, ⟨.struct [(0, 9), (1, 9)], 2, 32, some (.pair (.str) (.pair (.str) (.unit)))⟩)]
theorem tys : TysOk Try.prog Δ0 := tysOk_of (by kernel_rfl)
theorem mixed : Try.prog.follows .mixedOrders = true := by kernel_rfl
end Go.YtinhdhaohmnbeaaTy
