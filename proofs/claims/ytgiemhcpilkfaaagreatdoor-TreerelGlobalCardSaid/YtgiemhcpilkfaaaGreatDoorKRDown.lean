/- The tokens below a token, as the reference finds them. -/
import Derived.Test.YtgiemhcpilkfaaaGreatDoorKInts

namespace Go.Ab.Prog
open Go Go.Ab
set_option linter.unusedSimpArgs false
set_option maxHeartbeats 4000000

end Go.Ab.Prog
