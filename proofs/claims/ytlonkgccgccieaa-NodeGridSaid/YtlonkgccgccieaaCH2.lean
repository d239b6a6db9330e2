
import Derived.Test.YtlonkgccgccieaaCH1
import Derived.Test.YtlonkgccgccieaaCVA
import Derived.Test.YtlonkgccgccieaaSpecP3
set_option linter.all false
set_option exponentiation.threshold 3000
set_option maxRecDepth 100000
set_option maxHeartbeats 2000000
namespace Go.Eng
open Go.Proofs
end Go.Eng
