/- The program's types, as the abstract interpreter looks at them. -/
import Derived.Test.YtcnfeibfjmnlfaaProg
import Derived.Test.YtcnfeibfjmnlfaaAbFn
namespace Go.YtcnfeibfjmnlfaaTy
open Go.Ab Go.Proofs
set_option maxRecDepth 100000
def Δ0 : Tys := [(3, ⟨.int .i64, 1, 8, some (.int .i64)⟩),
  (4, ⟨.bool, 1, 1, some (.bool)⟩),
  (5, ⟨.int .u8, 1, 1, some (.int .u8)⟩),
  (9, ⟨.str, 1, 16, some (.str)⟩),
  (22, ⟨.slice 3, 1, 24, some (.slice (.int .i64))⟩),
  (24, ⟨.struct [(0, 3), (1, 3), (2, 4)], 3, 24, some (.pair (.int .i64) (.pair (.int .i64) (.pair (.bool) (.unit))))⟩),
  (26, ⟨.struct [(0, 3), (1, 3)], 2, 16, some (.pair (.int .i64) (.pair (.int .i64) (.unit)))⟩),
  (37, ⟨.ptr 68, 1, 8, none⟩),
  (39, ⟨.slice 5, 1, 24, some (.slice (.int .u8))⟩),
  (41, ⟨.struct [(0, 3), (1, 39), (2, 3)], 3, 40, some (.pair (.int .i64) (.pair (.slice (.int .u8)) (.pair (.int .i64) (.unit))))⟩),
  (47, ⟨.int .u64, 1, 8, some (.int .u64)⟩),
  (56, ⟨.slice 47, 1, 24, some (.slice (.int .u64))⟩),
  (58, ⟨.slice 4, 1, 24, some (.slice (.bool))⟩),
  (68, ⟨.struct [(0, 22), (1, 3)], 2, 32, some (.pair (.slice (.int .i64)) (.pair (.int .i64) (.unit)))⟩),
  (70, ⟨.slice 9, 1, 24, some (.slice (.str))⟩),
  (78, ⟨.slice 39, 1, 24, some (.slice (.slice (.int .u8)))⟩)]
theorem tys : TysOk Try.prog Δ0 := tysOk_of (by kernel_rfl)
theorem mixed : Try.prog.follows .mixedOrders = true := by kernel_rfl
end Go.YtcnfeibfjmnlfaaTy
