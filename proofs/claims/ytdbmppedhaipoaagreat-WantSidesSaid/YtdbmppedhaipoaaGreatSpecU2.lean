
import Derived.Test.YtdbmppedhaipoaaGreatSpecU
set_option linter.all false
set_option exponentiation.threshold 3000
set_option maxRecDepth 100000
namespace Go.Eng
def tS (s:Int×Int×Int) (v:Int):Bool:=decide (s.1=v)||decide (s.2.1=v)
def sK (S:List (Int×Int×Int)) (v:Int):Nat→Int
 | 0=>0
 | k+1=>if tS (cK S k) v then aD .add .i64 (sK S v k) 1 else sK S v k
def J5 (V S:List (Int×Int×Int)) (i k:Int):Int:=kM.meet (ptV V (cK S i).1) (ptV V (cK S i).2.1) (ptV V (cK S k).1) (ptV V (cK S k).2.1)
def j3 (V S:List (Int×Int×Int)) (i k:Int):Bool:=
 decide (J5 V S i k=2)||(decide (J5 V S i k=1)&&(!decide ((cK S i).1=(cK S k).1)&&(!decide ((cK S i).1=(cK S k).2.1)&&(!decide ((cK S i).2.1=(cK S k).1)&& !decide ((cK S i).2.1=(cK S k).2.1)))))
def GU (r:Rt):Bool:=decide (aO.sign r≤0)||decide (aO.cmp r (bD.whole 64) ≥ 0)
def E9 (V S:List (Int×Int×Int)) (p:Pt) (k:Int):Bool:=bD.all [ptV V (cK S k).1,ptV V (cK S k).2.1,p]&&kM.on (ptV V (cK S k).1) (ptV V (cK S k).2.1) p
def rY (V S:List (Int×Int×Int)) (p:Pt):Bool:=GU p.X||(GU p.Y||cY (aY S) (E9 V S p))
def FA (v:Int×Int×Int):Bool:=decide (v.1 < 0)||(decide (v.2.1 < 0)||(decide (v.1 > 64)||decide (v.2.1 > 64)))
def Zz (V:List (Int×Int×Int)) (i j:Int):Bool:=decide ((cK V i).1=(cK V j).1)&&decide ((cK V i).2.1=(cK V j).2.1)
def Cl (V S:List (Int×Int×Int)) (H:List Pt):Int:=
 if !iO V S H then 10 else if cY (aY V) (fun k=>FA (cK V k)) then 13 else if cY (aY V) (fun i=>cY i fun j=>Zz V i j) then 14 else if cY (aY V) (fun k=>decide (sK S k S.length≠2)) then 15 else
  if cY (aY S) (fun i=>cY i fun j=>j3 V S i j) then 16 else if cY (aY H) (fun k=>rY V S (pC H k)) then 17 else 0
structure SO where
 tS:Int×Int×Int→Int→Bool
 degK:List (Int×Int×Int)→Int→Int→Int
 deg:List (Int×Int×Int)→Int→Int
 cross:List (Int×Int×Int)→List (Int×Int×Int)→Int→Int→Bool
 outR:Rt→Bool
 hole:List (Int×Int×Int)→List (Int×Int×Int)→Pt→Bool
 check:List (Int×Int×Int)→List (Int×Int×Int)→List Pt→Int
def pE:SO where
 tS:=tS
 degK S v k:=sK S v k.toNat
 deg S v:=sK S v S.length
 cross:=j3
 outR:=GU
 hole:=rY
 check:=Cl
end Go.Eng
