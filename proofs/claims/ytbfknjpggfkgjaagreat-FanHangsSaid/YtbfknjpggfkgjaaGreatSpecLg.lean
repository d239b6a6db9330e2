
import Derived.Test.YtbfknjpggfkgjaaGreatSpecLm
set_option linter.all false
set_option exponentiation.threshold 3000
set_option maxRecDepth 100000
set_option maxHeartbeats 2000000
namespace Go.Eng
structure I8 (x:Int):Prop where
 a: -128≤x
 b:x < 128
theorem I8.sm {x:Int} (h:I8 x):Sm 60 x:=by
 have:=h.a
 have:=h.b
 show x.natAbs < 2 ^ 60
 omega
end Go.Eng
