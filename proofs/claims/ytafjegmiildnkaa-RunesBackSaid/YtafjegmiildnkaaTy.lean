/- The program's types, as the abstract interpreter looks at them. -/
import Derived.Test.YtafjegmiildnkaaProg
import Derived.Test.YtafjegmiildnkaaAbFn
namespace Go.YtafjegmiildnkaaTy
open Go.Ab Go.Proofs
set_option maxRecDepth 100000
def Δ0 : Tys := [(3, ⟨.int .i64, 1, 8, some (.int .i64)⟩),
  (4, ⟨.bool, 1, 1, some (.bool)⟩),
  (5, ⟨.int .u8, 1, 1, some (.int .u8)⟩),
  (9, ⟨.str, 1, 16, some (.str)⟩),
  (22, ⟨.slice 3, 1, 24, some (.slice (.int .i64))⟩),
  (23, ⟨.slice 5, 1, 24, some (.slice (.int .u8))⟩),
  (26, ⟨.slice 23, 1, 24, some (.slice (.slice (.int .u8)))⟩),
  (29, ⟨.struct [(0, 23)], 1, 24, some (.pair (.slice (.int .u8)) (.unit))⟩),
  (35, ⟨.slice 29, 1, 24, some (.slice (.pair (.slice (.int .u8)) (.unit)))⟩),
  (42, ⟨.ptr 53, 1, 8, none⟩),
  (53, ⟨.struct [(0, 22), (1, 3)], 2, 32, some (.pair (.slice (.int .i64)) (.pair (.int .i64) (.unit)))⟩)]
theorem tys : TysOk Try.prog Δ0 := tysOk_of (by kernel_rfl)
theorem mixed : Try.prog.follows .mixedOrders = true := by kernel_rfl
end Go.YtafjegmiildnkaaTy
