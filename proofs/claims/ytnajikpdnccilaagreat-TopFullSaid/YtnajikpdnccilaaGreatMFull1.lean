/- What a full queue has no room for is refused: runs. -/
import Derived.Test.YtnajikpdnccilaaGreatPvMK
import Derived.Test.YtnajikpdnccilaaGreatProg
import Derived.Test.YtnajikpdnccilaaGreatMFullRuns
import Derived.KernelRfl
set_option maxRecDepth 100000
namespace Go.Proofs.YtnajikpdnccilaaGreat.Pv.M
open Go Go.Proofs
theorem full1 : fullRun 1 = true := by kernel_rfl
theorem full6 : fullRun 6 = true := by kernel_rfl
end Go.Proofs.YtnajikpdnccilaaGreat.Pv.M
