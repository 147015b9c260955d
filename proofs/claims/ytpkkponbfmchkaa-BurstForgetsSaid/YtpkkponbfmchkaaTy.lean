/- The program's types, as the abstract interpreter looks at them. -/
import Derived.Test.YtpkkponbfmchkaaProg
import Derived.Test.YtpkkponbfmchkaaAbFn
namespace Go.YtpkkponbfmchkaaTy
open Go.Ab Go.Proofs
set_option maxRecDepth 100000
def Δ0 : Tys := [(3, ⟨.int .i64, 1, 8, some (.int .i64)⟩),
  (4, ⟨.bool, 1, 1, some (.bool)⟩),
  (22, ⟨.int .u64, 1, 8, some (.int .u64)⟩),
  (23, ⟨.slice 22, 1, 24, some (.slice (.int .u64))⟩),
  (26, ⟨.slice 4, 1, 24, some (.slice (.bool))⟩)]
theorem tys : TysOk Try.prog Δ0 := tysOk_of (by kernel_rfl)
theorem mixed : Try.prog.follows .mixedOrders = true := by kernel_rfl
end Go.YtpkkponbfmchkaaTy
