/- The program's types, as the abstract interpreter looks at them. -/
import Derived.Test.YtlcibodnpogfhaaProg
import Derived.Test.YtlcibodnpogfhaaAbFn
namespace Go.YtlcibodnpogfhaaTy
open Go.Ab Go.Proofs
set_option maxRecDepth 100000
def Δ0 : Tys := [(3, ⟨.int .i64, 1, 8, some (.int .i64)⟩),
  (4, ⟨.bool, 1, 1, some (.bool)⟩),
  (5, ⟨.int .u8, 1, 1, some (.int .u8)⟩),
  (9, ⟨.str, 1, 16, some (.str)⟩),
  (22, ⟨.slice 3, 1, 24, some (.slice (.int .i64))⟩),
  (23, ⟨.slice 33, 1, 24, some (.slice (.pair (.str) (.pair (.str) (.pair (.slice (.pair (.str) (.pair (.str) (.unit)))) (.pair (.slice (.str)) (.pair (.bool) (.pair (.str) (.pair (.int .i64) (.pair (.int .u64) (.pair (.int .u64) (.pair (.int .u64) (.pair (.int .i64) (.pair (.int .u64) (.pair (.slice (.pair (.int .i64) (.pair (.int .u64) (.unit)))) (.pair (.int .i64) (.pair (.int .i64) (.unit)))))))))))))))))⟩),
  (26, ⟨.ptr 73, 1, 8, none⟩),
  (28, ⟨.slice 84, 1, 24, some (.slice (.pair (.str) (.pair (.str) (.unit))))⟩),
  (29, ⟨.slice 9, 1, 24, some (.slice (.str))⟩),
  (30, ⟨.int .u64, 1, 8, some (.int .u64)⟩),
  (31, ⟨.slice 71, 1, 24, some (.slice (.pair (.int .i64) (.pair (.int .u64) (.unit))))⟩),
  (33, ⟨.struct [(0, 9), (1, 9), (2, 28), (3, 29), (4, 4), (5, 9), (6, 3), (7, 30), (8, 30), (9, 30), (10, 3), (11, 30), (12, 31), (13, 3), (14, 3)], 15, 192, some (.pair (.str) (.pair (.str) (.pair (.slice (.pair (.str) (.pair (.str) (.unit)))) (.pair (.slice (.str)) (.pair (.bool) (.pair (.str) (.pair (.int .i64) (.pair (.int .u64) (.pair (.int .u64) (.pair (.int .u64) (.pair (.int .i64) (.pair (.int .u64) (.pair (.slice (.pair (.int .i64) (.pair (.int .u64) (.unit)))) (.pair (.int .i64) (.pair (.int .i64) (.unit))))))))))))))))⟩),
  (35, ⟨.array 2 23, 2, 48, some (.pair (.slice (.pair (.str) (.pair (.str) (.pair (.slice (.pair (.str) (.pair (.str) (.unit)))) (.pair (.slice (.str)) (.pair (.bool) (.pair (.str) (.pair (.int .i64) (.pair (.int .u64) (.pair (.int .u64) (.pair (.int .u64) (.pair (.int .i64) (.pair (.int .u64) (.pair (.slice (.pair (.int .i64) (.pair (.int .u64) (.unit)))) (.pair (.int .i64) (.pair (.int .i64) (.unit))))))))))))))))) (.pair (.slice (.pair (.str) (.pair (.str) (.pair (.slice (.pair (.str) (.pair (.str) (.unit)))) (.pair (.slice (.str)) (.pair (.bool) (.pair (.str) (.pair (.int .i64) (.pair (.int .u64) (.pair (.int .u64) (.pair (.int .u64) (.pair (.int .i64) (.pair (.int .u64) (.pair (.slice (.pair (.int .i64) (.pair (.int .u64) (.unit)))) (.pair (.int .i64) (.pair (.int .i64) (.unit))))))))))))))))) (.unit)))⟩),
  (36, ⟨.slice 35, 1, 24, some (.slice (.pair (.slice (.pair (.str) (.pair (.str) (.pair (.slice (.pair (.str) (.pair (.str) (.unit)))) (.pair (.slice (.str)) (.pair (.bool) (.pair (.str) (.pair (.int .i64) (.pair (.int .u64) (.pair (.int .u64) (.pair (.int .u64) (.pair (.int .i64) (.pair (.int .u64) (.pair (.slice (.pair (.int .i64) (.pair (.int .u64) (.unit)))) (.pair (.int .i64) (.pair (.int .i64) (.unit))))))))))))))))) (.pair (.slice (.pair (.str) (.pair (.str) (.pair (.slice (.pair (.str) (.pair (.str) (.unit)))) (.pair (.slice (.str)) (.pair (.bool) (.pair (.str) (.pair (.int .i64) (.pair (.int .u64) (.pair (.int .u64) (.pair (.int .u64) (.pair (.int .i64) (.pair (.int .u64) (.pair (.slice (.pair (.int .i64) (.pair (.int .u64) (.unit)))) (.pair (.int .i64) (.pair (.int .i64) (.unit))))))))))))))))) (.unit))))⟩),
  (38, ⟨.slice 43, 1, 24, some (.slice (.pair (.str) (.pair (.int .i64) (.unit))))⟩),
  (43, ⟨.struct [(0, 9), (1, 3)], 2, 24, some (.pair (.str) (.pair (.int .i64) (.unit)))⟩),
  (46, ⟨.slice 5, 1, 24, some (.slice (.int .u8))⟩),
  (48, ⟨.struct [(0, 3), (1, 46), (2, 3)], 3, 40, some (.pair (.int .i64) (.pair (.slice (.int .u8)) (.pair (.int .i64) (.unit))))⟩),
  (56, ⟨.struct [(0, 3), (1, 3), (2, 3), (3, 9), (4, 46)], 5, 64, some (.pair (.int .i64) (.pair (.int .i64) (.pair (.int .i64) (.pair (.str) (.pair (.slice (.int .u8)) (.unit))))))⟩),
  (58, ⟨.slice 56, 1, 24, some (.slice (.pair (.int .i64) (.pair (.int .i64) (.pair (.int .i64) (.pair (.str) (.pair (.slice (.int .u8)) (.unit)))))))⟩),
  (59, ⟨.int .i64, 1, 8, some (.int .i64)⟩),
  (62, ⟨.slice 46, 1, 24, some (.slice (.slice (.int .u8)))⟩),
  (68, ⟨.ptr 33, 1, 8, none⟩),
  (71, ⟨.struct [(0, 3), (1, 30)], 2, 16, some (.pair (.int .i64) (.pair (.int .u64) (.unit)))⟩),
  (73, ⟨.struct [(0, 22), (1, 3)], 2, 32, some (.pair (.slice (.int .i64)) (.pair (.int .i64) (.unit)))⟩),
  (84, ⟨.struct [(0, 9), (1, 9)], 2, 32, some (.pair (.str) (.pair (.str) (.unit)))⟩),
  (94, ⟨.struct [(0, 59), (1, 3), (2, 3)], 3, 24, some (.pair (.int .i64) (.pair (.int .i64) (.pair (.int .i64) (.unit))))⟩),
  (99, ⟨.slice 106, 1, 24, some (.slice (.pair (.int .i64) (.pair (.str) (.pair (.int .i64) (.pair (.int .i64) (.unit))))))⟩),
  (102, ⟨.ptr 104, 1, 8, none⟩),
  (104, ⟨.struct [(0, 99), (1, 3), (2, 94), (5, 29)], 6, 80, some (.pair (.slice (.pair (.int .i64) (.pair (.str) (.pair (.int .i64) (.pair (.int .i64) (.unit)))))) (.pair (.int .i64) (.pair (.pair (.int .i64) (.pair (.int .i64) (.pair (.int .i64) (.unit)))) (.pair (.slice (.str)) (.unit)))))⟩),
  (106, ⟨.struct [(0, 3), (1, 9), (2, 3), (3, 3)], 4, 40, some (.pair (.int .i64) (.pair (.str) (.pair (.int .i64) (.pair (.int .i64) (.unit)))))⟩)]
theorem tys : TysOk Try.prog Δ0 := tysOk_of (by kernel_rfl)
theorem mixed : Try.prog.follows .mixedOrders = true := by kernel_rfl
end Go.YtlcibodnpogfhaaTy
