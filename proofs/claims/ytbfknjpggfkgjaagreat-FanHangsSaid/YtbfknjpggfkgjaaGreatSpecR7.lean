
import Derived.Test.YtbfknjpggfkgjaaGreatSpecR1
set_option linter.all false
set_option exponentiation.threshold 3000
set_option maxRecDepth 100000
set_option maxHeartbeats 4000000
namespace Go.Eng
def sqQ (x0 x1 y0 y1:Int):PcR:=(0,0,0,⟨bD.whole x0,bD.whole x1⟩,⟨bD.whole y0,bD.whole y1⟩,⟨bD.whole y0,bD.whole y1⟩,())
def z5 (n:Int) (up:Bool):List PcR:=match up with
 | true=>[sqQ 0 (2*n) 0 (2*n),sqQ (2*n) (3*n) 0 n,sqQ (2*n) (3*n) n (2*n)]
 | false=>[sqQ 0 (2*n) 0 (2*n),sqQ (2*n) (3*n) 0 n]
def asU (t:I3):List (Int×Int):=[(t.1,t.2.1),(t.2.1,t.2.2),(t.2.2,t.1)]
def aoL (T:List I3):List (Int×Int):=T.flatMap asU
def aoG (L:List (Int×Int)) (a b:Int):Int:=((L.countP fun x=>decide (x=(a,b)):Nat):Int)
def aq1 (T L:List (Int×Int)):Int:=(L.map fun e=>1 - aoG T e.2 e.1).sum
def anS (T:List I3) (want:Int):Bool:=(fun E=>decide ((T.length:Int)=want)&&(E.all (fun e=>decide (aoG E e.1 e.2=1)&&decide (aoG E e.2 e.1≤1))&&decide (aq1 E E=7))) (aoL T)
def apU (n:Int) (up:Bool):List I3:=(fun l=>(fun all=>(fun p=>all.map (ap5 p)) (f7.srt (anJ all))) (am3 (f7.srt (dT.cors l)) l l.length)) (z5 n up)
theorem arX:((List.range 6).all fun i:Nat=>anS (apU ((i:Int)+1) false) 9)=true:=by decide +kernel
theorem arY:((List.range 6).all fun i:Nat=>anS (apU ((i:Int)+1) true) 13)=true:=by decide +kernel
end Go.Eng
