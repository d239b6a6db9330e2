
import Derived.Test.YtbfknjpggfkgjaaGreatSpecFA
import Derived.Test.YtbfknjpggfkgjaaGreatEngAF
set_option linter.all false
set_option exponentiation.threshold 3000
set_option maxRecDepth 100000
namespace Go.Eng
def aY {α:Type} (V:List α):Int:=(V.length:Int)
def pC (l:List Pt) (k:Int):Pt:=aA.get l k ⟨⟨⟨false,Dg.zero⟩,⟨false,Dg.zero⟩⟩,⟨⟨false,Dg.zero⟩,⟨false,Dg.zero⟩⟩⟩
end Go.Eng
