
import Derived.Test.YtdbmppedhaipoaaGreatSpecFA
import Derived.Test.YtdbmppedhaipoaaGreatEngAF
set_option linter.all false
set_option exponentiation.threshold 3000
set_option maxRecDepth 100000
namespace Go.Eng
def cK (V:List (Int×Int×Int)) (i:Int):Int×Int×Int:=aA.get V i (0,0,0)
def aY {α:Type} (V:List α):Int:=(V.length:Int)
def nS (V:List (Int×Int×Int)) (i:Int):Bool:=decide (0≤i)&&decide (i < aY V)
def axV (V:List (Int×Int×Int)) (i:Int):Int:=if nS V i then(cK V i).1 else 0
def ayV (V:List (Int×Int×Int)) (i:Int):Int:=if nS V i then(cK V i).2.1 else 0
def Kd (a b:Int):Int:=aD .mul .i64 a b
def Lo (a b:Int):Int:=aD .sub .i64 a b
def EG (ax ay bx by_ cx cy:Int):Int:=aA.mn (aA.mx (Lo (Kd (Lo bx ax) (Lo cy ay)) (Kd (Lo by_ ay) (Lo cx ax))) (-1)) 1
def onV (V:List (Int×Int×Int)) (u v i:Int):Bool:=
 decide (EG (axV V u) (ayV V u) (axV V v) (ayV V v) (axV V i) (ayV V i)=0)&&(decide (axV V i ≥ aA.mn (axV V u) (axV V v))&&(decide (axV V i≤aA.mx (axV V u) (axV V v))&&
  (decide (ayV V i ≥ aA.mn (ayV V u) (ayV V v))&&decide (ayV V i≤aA.mx (ayV V u) (ayV V v)))))
def isEnd (s:Int×Int×Int) (v:Int):Bool:=decide (v=s.1)||decide (v=s.2.1)
def tV (V:List (Int×Int×Int)) (a b c:Int):Int:=EG (axV V a) (ayV V a) (axV V b) (ayV V b) (axV V c) (ayV V c)
def j4 (V S:List (Int×Int×Int)) (i j:Int):Bool:=
 let s:=cK S i
 let t:=cK S j
 (isEnd s t.1&&isEnd s t.2.1)||((onV V s.1 s.2.1 t.1&& !isEnd s t.1)||(onV V s.1 s.2.1 t.2.1&& !isEnd s t.2.1))||
  ((onV V t.1 t.2.1 s.1&&(!decide (s.1=t.1)&& !decide (s.1=t.2.1)))||(onV V t.1 t.2.1 s.2.1&&(!decide (s.2.1=t.1)&& !decide (s.2.1=t.2.1))))||
  (decide (Kd (tV V s.1 s.2.1 t.1) (tV V s.1 s.2.1 t.2.1) < 0)&&decide (Kd (tV V t.1 t.2.1 s.1) (tV V t.1 t.2.1 s.2.1) < 0))
def HL (n:Int):Bool:= !(decide (0≤n)&&decide (n≤1000000))
def Cd (V:List (Int×Int×Int)) (k:Int):Bool:=HL (cK V k).2.2
def zC (V S:List (Int×Int×Int)) (k:Int):Bool:= !nS V (cK S k).1||(!nS V (cK S k).2.1||(decide ((cK S k).1=(cK S k).2.1)||HL (cK S k).2.2))
def pC (l:List Pt) (k:Int):Pt:=aA.get l k ⟨⟨⟨false,Dg.zero⟩,⟨false,Dg.zero⟩⟩,⟨⟨false,Dg.zero⟩,⟨false,Dg.zero⟩⟩⟩
def pB (V S:List (Int×Int×Int)) (H:List Pt):Bool:=decide (aY V=0)||(decide (aY V > 16)||(decide (aY S > 16)||decide (aY H > 4)))
def iO (V S:List (Int×Int×Int)) (H:List Pt):Bool:= !pB V S H&&(!cY (aY V) (Cd V)&&(!cY (aY S) (zC V S)&&dX H))
def Fe (v:Int×Int×Int):Bool:= !(decide (0≤v.1)&&decide (v.1≤64))|| !(decide (0≤v.2.1)&&decide (v.2.1≤64))
def sE (V:List (Int×Int×Int)):Bool:= !cY (aY V) fun k=>Fe (cK V k)
def vE (V:List (Int×Int×Int)) (i j:Int):Bool:=decide (axV V i=axV V j)&&decide (ayV V i=ayV V j)
def yY (V:List (Int×Int×Int)):Bool:=cY (aY V) fun i=>cY i fun j=>vE V i j
def zT (l:List Int) (i:Int):List Int:=aA.set l i (aD .add .i64 (aA.get l i 0) 1)
def jA (V S:List (Int×Int×Int)):Nat→List Int
 | 0=>List.replicate V.length 0
 | k+1=>zT (zT (jA V S k) (cK S k).1) (cK S k).2.1
def mU (l:List Int) (k:Int):Int:=aA.get l k 0
def uQ (V S:List (Int×Int×Int)):Bool:= !cY (aY V) fun k=>decide (mU (jA V S S.length) k≠2)
def tZ (V S:List (Int×Int×Int)):Bool:=cY (aY S) fun i=>cY i fun j=>j4 V S i j
def ptV (V:List (Int×Int×Int)) (i:Int):Pt:=bD.at_ (axV V i) (ayV V i)
def outR (x:Rt):Bool:= !bD.all [bD.at_ 0 0,⟨x,(bD.at_ 0 0).Y⟩]||(!bD.all [⟨x,(bD.at_ 0 0).Y⟩,bD.at_ 64 0]||(decide (bD.cmp (bD.at_ 0 0) ⟨x,(bD.at_ 0 0).Y⟩ ≥ 0)||decide (bD.cmp ⟨x,(bD.at_ 0 0).Y⟩ (bD.at_ 64 0) ≥ 0)))
def Di (V S:List (Int×Int×Int)) (p:Pt) (k:Int):Bool:= !bD.all [ptV V (cK S k).1,ptV V (cK S k).2.1,p]||kM.on (ptV V (cK S k).1) (ptV V (cK S k).2.1) p
def qQ (V S:List (Int×Int×Int)) (p:Pt):Bool:= !outR p.X&&(!outR p.Y&& !cY (aY S) (Di V S p))
def Cm (V S:List (Int×Int×Int)) (H:List Pt):Int:=
 if !iO V S H then 10 else if !sE V then 13 else if yY V then 14 else if !uQ V S then 15 else if tZ V S then 16 else if cY (aY H) (fun k=> !qQ V S (pC H k)) then 17 else 0
structure SU where
 has:List (Int×Int×Int)→Int→Bool
 ax:List (Int×Int×Int)→Int→Int
 ay:List (Int×Int×Int)→Int→Int
 turn:Int→Int→Int→Int→Int→Int→Int
 on:List (Int×Int×Int)→Int→Int→Int→Bool
 isEnd:Int×Int×Int→Int→Bool
 cross:List (Int×Int×Int)→List (Int×Int×Int)→Int→Int→Bool
 HL:Int→Bool
 form:List (Int×Int×Int)→List (Int×Int×Int)→List Pt→Bool
 out:Int×Int×Int→Bool
 outI:Int→Bool
 bound:List (Int×Int×Int)→Bool
 twin:List (Int×Int×Int)→Bool
 ends:List (Int×Int×Int)→List (Int×Int×Int)→Int→List Int
 looped:List (Int×Int×Int)→List (Int×Int×Int)→Bool
 crossed:List (Int×Int×Int)→List (Int×Int×Int)→Bool
 pt:List (Int×Int×Int)→Int→Pt
 outR:Rt→Bool
 hit:List (Int×Int×Int)→List (Int×Int×Int)→Pt→Int→Bool
 hole:List (Int×Int×Int)→List (Int×Int×Int)→Pt→Bool
 check:List (Int×Int×Int)→List (Int×Int×Int)→List Pt→Int
 idxP:List Pt→Int
 anyP:List Pt→Bool
 idxV:List (Int×Int×Int)→Int
 anyV:List (Int×Int×Int)→Bool
 idxI:List Int→Int
 anyI:List Int→Bool
 idxH:List (Int×Int×Int)→List (Int×Int×Int)→List Pt→Int
 anyH:List (Int×Int×Int)→List (Int×Int×Int)→List Pt→Bool
 inb:List (Int×Int×Int)→Bool
 bnd:Int→Bool
def bN:SU where
 has:=nS
 ax:=axV
 ay:=ayV
 turn:=EG
 on:=onV
 isEnd:=isEnd
 cross:=j4
 HL:=HL
 form:=iO
 out:=Fe
 outI n:= !(decide (0≤n)&&decide (n≤64))
 bound:=sE
 twin:=yY
 ends V S k:=jA V S k.toNat
 looped:=uQ
 crossed:=tZ
 pt:=ptV
 outR:=outR
 hit:=Di
 hole:=qQ
 check:=Cm
 idxP l:=Dk (aY l) fun k=> !dX [pC l k]
 anyP l:=cY (aY l) fun k=> !dX [pC l k]
 idxV V:=Dk (aY V) fun k=>Fe (cK V k)
 anyV V:=cY (aY V) fun k=>Fe (cK V k)
 idxI l:=Dk (aY l) fun k=>decide (mU l k≠2)
 anyI l:=cY (aY l) fun k=>decide (mU l k≠2)
 idxH V S l:=Dk (aY l) fun k=> !qQ V S (pC l k)
 anyH V S l:=cY (aY l) fun k=> !qQ V S (pC l k)
 inb V:=V.all fun x=>(decide (-9223372036854775808≤x.1)&&decide (x.1 < 9223372036854775808))&&((decide (-9223372036854775808≤x.2.1)&&decide (x.2.1 < 9223372036854775808))&&(decide (-9223372036854775808≤x.2.2)&&decide (x.2.2 < 9223372036854775808)))
 bnd n:=decide (-9223372036854775808≤n)&&decide (n < 9223372036854775808)
end Go.Eng
