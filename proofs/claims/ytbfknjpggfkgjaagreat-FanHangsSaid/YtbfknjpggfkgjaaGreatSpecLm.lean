
import Derived.Test.YtbfknjpggfkgjaaGreatSpecFA
set_option linter.all false
set_option exponentiation.threshold 3000
set_option maxRecDepth 100000
set_option maxHeartbeats 2000000
namespace Go.Eng
end Go.Eng
