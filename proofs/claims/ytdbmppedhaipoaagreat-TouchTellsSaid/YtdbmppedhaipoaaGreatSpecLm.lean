
import Derived.Test.YtdbmppedhaipoaaGreatSpecFA
set_option linter.all false
set_option exponentiation.threshold 3000
set_option maxRecDepth 100000
set_option maxHeartbeats 2000000
namespace Go.Eng
theorem Tt (q:Rat):cZ (-q) 0= -cZ q 0:=by
 rcases dH q 0 with ⟨h,e,_⟩ | ⟨h,e,_⟩ | ⟨h,e,_⟩ <;> rcases dH (-q) 0 with ⟨g,f,_⟩ | ⟨g,f,_⟩ | ⟨g,f,_⟩ <;> rw[e,f] <;> first | rfl | (exfalso;grind)
end Go.Eng
