
import Derived.Test.YtdbmppedhaipoaaGreatSpecU
set_option linter.all false
set_option exponentiation.threshold 3000
set_option maxRecDepth 100000
namespace Go.Eng
def Vq (x y s:Int):Bool:=(decide (s=1)||decide (s=2)||decide (s=4)||decide (s=8)||decide (s=16)||decide (s=32)||decide (s=64))&&decide (0≤x)&&decide (0≤y)&&decide (x≤64 - s)&&decide (y≤64 - s)&&decide (x % s=0)&&decide (y % s=0)
def Vv (a b lo hi:Rt):Bool:=(decide (aO.cmp a lo < 0)&&decide (aO.cmp b lo < 0))||(decide (aO.cmp a hi > 0)&&decide (aO.cmp b hi > 0))
def VC (n:Int) (a b p0 p1 p2 p3:Pt):Bool:=decide (bD.turn a b p0=n)&&(decide (bD.turn a b p1=n)&&(decide (bD.turn a b p2=n)&&decide (bD.turn a b p3=n)))
def Wg (a b p0 p1 p2 p3:Pt):Bool:=VC 1 a b p0 p1 p2 p3||VC (-1) a b p0 p1 p2 p3
def coB (x y s:Int):Nat→Pt
 | 0=>bD.at_ x y
 | 1=>bD.at_ (aD .add .i64 x s) y
 | 2=>bD.at_ (aD .add .i64 x s) (aD .add .i64 y s)
 | _=>bD.at_ x (aD .add .i64 y s)
def XX (x y s:Int) (a b:Pt):Bool:= !(Vv a.X b.X (coB x y s 0).X (coB x y s 2).X||Vv a.Y b.Y (coB x y s 0).Y (coB x y s 2).Y)&& !Wg a b (coB x y s 0) (coB x y s 1) (coB x y s 2) (coB x y s 3)
def inB (x y s:Int) (p:Pt):Bool:=decide (aO.cmp p.X (coB x y s 0).X ≥ 0)&&(decide (aO.cmp p.X (coB x y s 2).X≤0)&&(decide (aO.cmp p.Y (coB x y s 0).Y ≥ 0)&&decide (aO.cmp p.Y (coB x y s 2).Y≤0)))
def YH (x y s:Int) (a b:Pt):Bool:=decide (kM.meet a b (coB x y s 0) (coB x y s 1) > 0)||(decide (kM.meet a b (coB x y s 1) (coB x y s 2) > 0)||(decide (kM.meet a b (coB x y s 2) (coB x y s 3) > 0)||decide (kM.meet a b (coB x y s 3) (coB x y s 0) > 0)))
def U3 (x y s:Int) (a b:Pt):Bool:=Vq x y s&&(dX [a,b]&&XX x y s a b)
def Yv (x y s:Int) (a b:Pt):Bool:=Vq x y s&&(dX [a,b]&&(YH x y s a b||inB x y s a))
def VM (x y s:Int) (V S:List (Int×Int×Int)) (k:Int):Bool:=U3 x y s (ptV V (cK S k).1) (ptV V (cK S k).2.1)
def V4 (x y s:Int) (V S:List (Int×Int×Int)):Nat→List Int
 | 0=>[]
 | k+1=>if VM x y s V S k then V4 x y s V S k++[(k:Int)] else V4 x y s V S k
def crJ (ax ay bx by_ px py:Int):Int:=(bx - ax)*(py - ay) - (by_ - ay)*(px - ax)
def metI (x y s ax ay bx by_:Int):Bool:=
 !(decide (aA.mx ax bx < x)||(decide (aA.mn ax bx > x+s)||(decide (aA.mx ay by_ < y)||decide (aA.mn ay by_ > y+s))))&&
 ((decide (crJ ax ay bx by_ x y ≥ 0)||(decide (crJ ax ay bx by_ (x+s) y ≥ 0)||(decide (crJ ax ay bx by_ x (y+s) ≥ 0)||decide (crJ ax ay bx by_ (x+s) (y+s) ≥ 0))))&&
  (decide (crJ ax ay bx by_ x y≤0)||(decide (crJ ax ay bx by_ (x+s) y≤0)||(decide (crJ ax ay bx by_ x (y+s)≤0)||decide (crJ ax ay bx by_ (x+s) (y+s)≤0)))))
structure SB where
 apart:Rt→Rt→Rt→Rt→Bool
 aside:Pt→Pt→Pt→Pt→Pt→Pt→Bool
 c0:Int→Int→Int→Pt
 c1:Int→Int→Int→Pt
 c2:Int→Int→Int→Pt
 c3:Int→Int→Int→Pt
 met:Int→Int→Int→Pt→Pt→Bool
 in_:Int→Int→Int→Pt→Bool
 rim:Int→Int→Int→Pt→Pt→Bool
 seg:Int→Int→Int→Pt→Pt→Bool
 tch:Int→Int→Int→Pt→Pt→Bool
 all:Int→Int→Int→List (Int×Int×Int)→List (Int×Int×Int)→List Pt→List Int
 any:Int→Int→Int→List (Int×Int×Int)→List (Int×Int×Int)→List Pt→Bool
 metI:Int→Int→Int→Int→Int→Int→Int→Bool
def UP:SB where
 apart:=Vv
 aside:=Wg
 c0 x y s:=coB x y s 0
 c1 x y s:=coB x y s 1
 c2 x y s:=coB x y s 2
 c3 x y s:=coB x y s 3
 met:=XX
 in_:=inB
 rim:=YH
 seg:=U3
 tch:=Yv
 all x y s V S l:=if Cm V S l=0 then V4 x y s V S S.length else[]
 any x y s V S l:=decide (Cm V S l=0)&&cY (aY S) (VM x y s V S)
 metI:=metI
end Go.Eng
