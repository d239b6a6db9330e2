
import Derived.Test.YtekohdfjkmdlpaaSpecU3
set_option linter.all false
set_option exponentiation.threshold 3000
namespace Go.Eng
set_option maxRecDepth 100000
end Go.Eng

