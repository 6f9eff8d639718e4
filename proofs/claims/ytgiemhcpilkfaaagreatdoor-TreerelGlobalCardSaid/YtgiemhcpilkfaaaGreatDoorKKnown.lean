/- The document's example, run by the kernel. -/
import Derived.Test.YtgiemhcpilkfaaaGreatDoorKUnder
import Derived.KernelRfl

namespace Go.Ab.Prog
open Go Go.Ab

theorem known_run : callN prog 40 24 [] = some (.bool true, []) := by kernel_rfl
theorem known_spec : callV prog 24 [] = some (.bool true, []) := callV_iff.2 ⟨40, known_run⟩

end Go.Ab.Prog
