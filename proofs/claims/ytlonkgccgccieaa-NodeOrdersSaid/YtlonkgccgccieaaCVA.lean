
import Derived.Test.YtlonkgccgccieaaCUA
import Derived.Test.YtlonkgccgccieaaSpecFA
import Derived.Test.YtlonkgccgccieaaEngZA
set_option linter.all false
set_option exponentiation.threshold 3000
set_option maxRecDepth 100000
set_option maxHeartbeats 2000000
namespace Go.Eng
open Go.Proofs
section
variable {ρ:Rho} {f:Nat→Nat}
end
end Go.Eng
