/- Functions that are given whole: what they compute, in plain Lean. -/
import Derived.Test.YtgiemhcpilkfaaaGreatDoorK0

namespace Go.Ab

/-- strings.ContainsRune at an ASCII rune. -/
def primContainsRune : List PV → Option PV
  | [.str s, .int .i32 r] => if 0 ≤ r ∧ r < 128 then some (.bool (s.data.toList.any (· == r.toNat.toUInt8))) else none
  | _ => none

end Go.Ab
