
import Derived.Test.YtekohdfjkmdlpaaSpecU
set_option linter.all false
set_option exponentiation.threshold 3000
namespace Go.Eng
set_option maxRecDepth 100000
def tS (s:Int×Int×Int) (v:Int):Bool:=decide (s.1=v)||decide (s.2.1=v)
def sK (S:List (Int×Int×Int)) (v:Int):Nat→Int
 | 0=>0
 | k+1=>if tS (cK S k) v then aD .add .i64 (sK S v k) 1 else sK S v k
end Go.Eng

