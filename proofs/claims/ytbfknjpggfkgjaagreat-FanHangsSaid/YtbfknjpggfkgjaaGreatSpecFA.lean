
import Derived.Test.YtbfknjpggfkgjaaGreatSpecNA
set_option linter.all false
set_option exponentiation.threshold 3000
set_option maxRecDepth 100000
namespace Go.Eng
def bI (r:Rt):Rat:=Rat.divInt (aK r.N) (aK r.D)
def ofQ (q:Rat):Rt:=⟨ofZ q.num,ofZ (q.den:Int)⟩
def Bj (r:Rt):Bool:=gE r.N&&(gE r.D&&(decide (0 < aK r.D)&&decide (Int.gcd (aK r.N) (aK r.D)=1)))
def anH:Wd:=⟨false,Dg.zero⟩
def cN:Rt:=⟨⟨false,Dg.zero⟩,⟨false,Dg.zero⟩⟩
structure y6 (r:Rt):Prop where
 n:gE r.N=true
 d:gE r.D=true
 p:0 < aK r.D
 g:Int.gcd (aK r.N) (aK r.D)=1
theorem lC {r:Rt} :Bj r=true↔y6 r:=by
 unfold Bj
 simp only[Bool.and_eq_true,decide_eq_true_eq]
 exact⟨fun⟨a,b,c,d⟩=>⟨a,b,c,d⟩,fun⟨a,b,c,d⟩=>⟨a,b,c,d⟩⟩
theorem iJ {r:Rt} (h:y6 r):(bI r).num=aK r.N∧((bI r).den:Int)=aK r.D:=by
 unfold bI
 rw[Rat.num_divInt,Rat.den_divInt,Int.gcd_comm,h.g,if_neg (by have:=h.p;omega)]
 have hs:(aK r.D).sign=1:=Int.sign_eq_one_of_pos h.p
 have hp:=h.p
 rw[hs]
 simp
 omega
theorem uZ {r:Rt} (h:y6 r):ofQ (bI r)=r:=by
 obtain⟨h1,h2⟩:=iJ h
 unfold ofQ
 rw[h1,h2,pO h.n,pO h.d]
def Fg (q:Rat):Prop:=jB q.num=true∧jB (q.den:Int)=true
theorem G7 {q:Rat} (h:Fg q):bI (ofQ q)=q:=by
 unfold bI ofQ
 rw[dV h.1,dV h.2,Rat.divInt_ofNat,Rat.mkRat_self]
theorem FN {q:Rat} (h:Fg q):y6 (ofQ q):=by
 have hd:=q.den_pos
 refine⟨jO _,jO _,?_,?_⟩
 ·show 0 < aK (ofZ (q.den:Int))
  rw[dV h.2];omega
 ·show Int.gcd (aK (ofZ q.num)) (aK (ofZ (q.den:Int)))=1
  rw[dV h.1,dV h.2]
  exact q.reduced
def SmQ (k:Nat) (q:Rat):Prop:=Sm k q.num∧Sm k (q.den:Int)
theorem SmQ.fit {k:Nat} {q:Rat} (h:SmQ k q) (hk:k≤1024):Fg q:=⟨h.1.fit hk,h.2.fit hk⟩
theorem SmQ.mono {j k:Nat} {q:Rat} (h:SmQ j q) (hk:j≤k):SmQ k q:=⟨h.1.mono hk,h.2.mono hk⟩
theorem SmQ.div {k:Nat} {n d:Int} (hn:Sm k n) (hd:Sm k d) (h0:d≠0):SmQ k (Rat.divInt n d):=by
 constructor
 ·rw[Rat.num_divInt]
  refine hn.of_le ?_
  have h1:(d.sign*n / (d.gcd n:Int)).natAbs≤(d.sign*n).natAbs:=by
   rw[Int.natAbs_ediv_of_dvd ?_]
   ·exact Nat.div_le_self _ _
   ·exact Int.dvd_mul_of_dvd_right (Int.gcd_dvd_right ..)
  have h2:(d.sign*n).natAbs≤n.natAbs:=by
   rw[Int.natAbs_mul]
   have:d.sign.natAbs≤1:=by rw[Int.natAbs_sign];split <;> omega
   exact Nat.le_trans (Nat.mul_le_mul_right _ this) (by omega)
  exact Nat.le_trans h1 h2
 ·rw[Rat.den_divInt,if_neg h0]
  refine hd.of_le ?_
  rw[Int.natAbs_natCast]
  exact Nat.div_le_self _ _
def cZ (a b:Rat):Int:=if a < b then -1 else if b < a then 1 else 0
def cS (w:Wd):Int:=((bP w.d.n:Nat):Int)
def cQ (r:Rt) (b:Int):Bool:=decide (cS r.N≤b)&&(decide (cS r.D≤b)&&Bj r)
structure l6 (r:Rt) (k:Nat):Prop where
 is:y6 r
 n:Sm k (aK r.N)
 d:Sm k (aK r.D)
theorem pR {r:Rt} {b:Int} (h:cQ r b=true) (hb:0≤b):l6 r b.toNat:=by
 unfold cQ at h
 simp only[Bool.and_eq_true,decide_eq_true_eq] at h
 obtain⟨h1,h2,h3⟩:=h
 exact⟨lC.1 h3,Sm.bits (by unfold cS at h1;omega),Sm.bits (by unfold cS at h2;omega)⟩
theorem pK {w:Wd} {k:Nat} (h:Sm k (aK w)):cS w≤k:=by
 unfold Sm at h
 rw[bF] at h
 have:=iE _ _ h
 unfold cS
 omega
theorem l5 {r:Rt} {k:Nat} (h:l6 r k) {b:Int} (hb:(k:Int)≤b):cQ r b=true:=by
 unfold cQ
 have h1:=pK h.n
 have h2:=pK h.d
 rw[decide_eq_true (by omega),decide_eq_true (by omega),lC.2 h.is];rfl
theorem l6.q {r:Rt} {k:Nat} (h:l6 r k):SmQ k (bI r):=by
 obtain⟨h1,h2⟩:=iJ h.is
 exact⟨by rw[h1];exact h.n,by rw[h2];exact h.d⟩
theorem l6.ofQ {q:Rat} {k:Nat} (h:SmQ k q) (hk:k≤1024):l6 (ofQ q) k:=by
 have hf:=h.fit hk
 refine⟨FN hf,?_,?_⟩
 ·show Sm k (aK (ofZ q.num));rw[dV hf.1];exact h.1
 ·show Sm k (aK (ofZ (q.den:Int)));rw[dV hf.2];exact h.2
structure SF where
 li:Wd→Int
 liOK:Wd→Bool
 smN:Rt→Int
 smD:Rt→Int
 smOK:Rt→Bool
 com:Int→Int→Int
 made:Int→Int→Rt
 cmpI:Int→Int→Int
 b62:Int→Bool
 isR:Rt→Bool
 safe:Rt→Int→Bool
 all:List Rt→Bool
 new:Wd→Wd→Rt
 newOK:Wd→Wd→Bool
 sign:Rt→Int
 two:Rt→Rt→Bool
 cmp:Rt→Rt→Int
 add:Rt→Rt→Rt
 sub:Rt→Rt→Rt
 mul:Rt→Rt→Rt
 div:Rt→Rt→Rt
 divOK:Rt→Rt→Bool
 neg:Rt→Rt
 sum:List Rt→Rt
 sumOK:List Rt→Bool
def liZ (w:Wd):Int:=if w.neg then -((w.d.dig 0:Nat):Int) else((w.d.dig 0:Nat):Int)
def liB (w:Wd):Bool:=decide (w.d.n < 2 ^ 30)
def smB (r:Rt):Bool:=liB r.N&&(liB r.D&&Bj r)
def uV (n d:Wd):Bool:=decide (d.d.n≠0)&&(decide (cS n≤1023)&&(decide (cS d≤1023)&&(gE n&&gE d)))
def dK (a b:Rt):Bool:=cQ a 500&&cQ b 500
def w9:Rt→List Rt→Rt×Bool
 | a,[]=>(a,true)
 | a,w :: r=>match dK a w with
  | true=>w9 (ofQ (bI a+bI w)) r
  | false=>(cN,false)
def aO:SF where
 li:=liZ
 liOK:=liB
 smN r:=if smB r then aK r.N else 0
 smD r:=if smB r then aK r.D else 0
 smOK:=smB
 com a b:=((Nat.gcd a.natAbs b.natAbs:Nat):Int)
 made n d:=ofQ (Rat.divInt n d)
 cmpI a b:=sgn a b
 b62 n:=decide (-4611686018427387904≤n)&&decide (n≤4611686018427387904)
 isR:=Bj
 safe:=cQ
 all l:=l.all fun r=>cQ r 500
 new n d:=if uV n d then ofQ (Rat.divInt (aK n) (aK d)) else cN
 newOK:=uV
 sign r:=sgn (aK r.N) 0
 two:=dK
 cmp a b:=if dK a b then cZ (bI a) (bI b) else 0
 add a b:=if dK a b then ofQ (bI a+bI b) else cN
 sub a b:=if dK a b then ofQ (bI a - bI b) else cN
 mul a b:=if dK a b then ofQ (bI a*bI b) else cN
 div a b:=if dK a b&&decide (bI b≠0) then ofQ (bI a / bI b) else cN
 divOK a b:=dK a b&&decide (bI b≠0)
 neg r:=⟨aV.neg r.N,r.D⟩
 sum l:=(w9 ⟨anH,aV.from64 1⟩ l).1
 sumOK l:=(w9 ⟨anH,aV.from64 1⟩ l).2
theorem uN (w:Wd):gE (aV.neg w)=true:=by
 show gE (tld (!aU w) w.d)=true
 rw[gG];exact jO _
theorem eY {a b:Rt} (h:dK a b=true):l6 a 500∧l6 b 500:=by
 unfold dK at h
 rw[Bool.and_eq_true] at h
 exact⟨pR h.1 (by decide),pR h.2 (by decide)⟩
theorem Hi {r:Rt} (h:smB r=true):l6 r 30∧aO.smN r=aK r.N∧aO.smD r=aK r.D:=by
 have e1:aO.smN r=aK r.N:=by show(if smB r=true then _ else _)=_;rw[h];rfl
 have e2:aO.smD r=aK r.D:=by show(if smB r=true then _ else _)=_;rw[h];rfl
 unfold smB at h
 rw[Bool.and_eq_true,Bool.and_eq_true] at h
 have h1:r.N.d.n < 2 ^ 30:=of_decide_eq_true h.1
 have h2:r.D.d.n < 2 ^ 30:=of_decide_eq_true h.2.1
 exact⟨⟨lC.1 h.2.2,by unfold Sm;rw[bF];exact h1,by unfold Sm;rw[bF];exact h2⟩,e1,e2⟩
theorem H7 {a b:Rt} (ha:smB a=true) (hb:smB b=true):dK a b=true:=by
 unfold dK
 rw[l5 (Hi ha).1 (by decide),l5 (Hi hb).1 (by decide)];rfl
theorem IQ {a b:Rt} (ha:y6 a) (hb:y6 b):sgn (aK a.N*aK b.D) (aK b.N*aK a.D)=cZ (bI a) (bI b):=by
 obtain⟨a1,a2⟩:=iJ ha
 obtain⟨b1,b2⟩:=iJ hb
 have e1:bI a < bI b↔aK a.N*aK b.D < aK b.N*aK a.D:=by rw[Rat.lt_iff,a1,a2,b1,b2]
 have e2:bI b < bI a↔aK b.N*aK a.D < aK a.N*aK b.D:=by rw[Rat.lt_iff,a1,a2,b1,b2]
 unfold sgn cZ
 simp only[e1,e2]
theorem lG {a b:Rt} (ha:y6 a) (hb:y6 b):Rat.divInt (aK a.N*aK b.D+aK b.N*aK a.D) (aK a.D*aK b.D)=bI a+bI b:=by
 unfold bI
 rw[Rat.divInt_add_divInt _ _ (by have:=ha.p;omega) (by have:=hb.p;omega)]
theorem pQ {a b:Rt} (ha:y6 a) (hb:y6 b):Rat.divInt (aK a.N*aK b.D - aK b.N*aK a.D) (aK a.D*aK b.D)=bI a - bI b:=by
 unfold bI
 rw[Rat.divInt_sub_divInt _ _ (by have:=ha.p;omega) (by have:=hb.p;omega)]
theorem nJ (a b:Rt):Rat.divInt (aK a.N*aK b.N) (aK a.D*aK b.D)=bI a*bI b:=by
 unfold bI
 rw[Rat.divInt_mul_divInt]
theorem lH (a b:Rt):Rat.divInt (aK a.N*aK b.D) (aK a.D*aK b.N)=bI a / bI b:=by
 unfold bI
 rw[Rat.div_def,Rat.inv_divInt,Rat.divInt_mul_divInt]
theorem fM {r:Rt} (h:y6 r):bI r=0↔aK r.N=0:=by
 rw[← Rat.num_eq_zero,(iJ h).1]
theorem Eg {r:Rt} (h:y6 r):sgn (aK r.N) 0=cZ (bI r) 0:=by
 have h1:=(iJ h).1
 have e1:bI r < 0↔aK r.N < 0:=by rw[Rat.lt_iff,h1];simp
 have e2:0 < bI r↔0 < aK r.N:=by rw[Rat.lt_iff,h1];simp
 unfold sgn cZ
 simp only[e1,e2]
theorem Br {n d:Wd} (h:uV n d=true):aO.new n d=ofQ (Rat.divInt (aK n) (aK d)):=by
 show(if uV n d=true then _ else _)=_
 rw[if_pos h]
theorem uW {n d:Wd} (hn:Sm 1023 (aK n)) (hd:Sm 1023 (aK d)) (h0:aK d≠0) (in_:gE n=true) (id_:gE d=true):uV n d=true:=by
 unfold uV
 have:=pK hn
 have:=pK hd
 have h1:d.d.n≠0:=by have:=bF d;omega
 rw[decide_eq_true h1,decide_eq_true (show cS n≤1023 by omega),decide_eq_true (show cS d≤1023 by omega),in_,id_];rfl
structure PA (a b:Rt):Prop where
 k1:aS.mulOK a.N b.D=true∧aK (aS.mul a.N b.D)=aK a.N*aK b.D∧Sm 1000 (aK a.N*aK b.D)
 k2:aS.mulOK b.N a.D=true∧aK (aS.mul b.N a.D)=aK b.N*aK a.D∧Sm 1000 (aK b.N*aK a.D)
 k3:aS.mulOK a.D b.D=true∧aK (aS.mul a.D b.D)=aK a.D*aK b.D∧Sm 1000 (aK a.D*aK b.D)
 k4:aS.mulOK a.N b.N=true∧aK (aS.mul a.N b.N)=aK a.N*aK b.N∧Sm 1000 (aK a.N*aK b.N)
 k5:aS.mulOK a.D b.N=true∧aK (aS.mul a.D b.N)=aK a.D*aK b.N∧Sm 1000 (aK a.D*aK b.N)
theorem QE {a b:Rt} (ha:l6 a 500) (hb:l6 b 500):PA a b:=by
 have key: ∀ x y:Wd,Sm 500 (aK x)→Sm 500 (aK y)→aS.mulOK x y=true∧aK (aS.mul x y)=aK x*aK y∧Sm 1000 (aK x*aK y):=fun x y hx hy=>by
  have hs:Sm 1000 (aK x*aK y):=hx.mul hy
  obtain⟨_,h2,h3⟩:=RA (x:=x) (y:=y) rfl rfl (hs.fit (by decide))
  exact⟨h2,h3,hs⟩
 exact⟨key _ _ ha.n hb.d,key _ _ hb.n ha.d,key _ _ ha.d hb.d,key _ _ ha.n hb.n,key _ _ ha.d hb.n⟩
theorem amP {x y:Int} (hx:0 < x) (hy:0 < y):x*y≠0:=by
 have:=Int.mul_pos hx hy
 omega
structure RB (a b:Rt):Prop where
 m1:aS.mulOK a.N b.D=true
 m2:aS.mulOK b.N a.D=true
 m3:aS.mulOK a.D b.D=true
 m4:aS.mulOK a.N b.N=true
 m5:aS.mulOK a.D b.N=true
 ad:aS.addOK (aS.mul a.N b.D) (aS.mul b.N a.D)=true
 cmp:aV.cmp (aS.mul a.N b.D) (aS.mul b.N a.D)=cZ (bI a) (bI b)
 add:aO.new (aS.add (aS.mul a.N b.D) (aS.mul b.N a.D)) (aS.mul a.D b.D)=ofQ (bI a+bI b)∧aO.newOK (aS.add (aS.mul a.N b.D) (aS.mul b.N a.D)) (aS.mul a.D b.D)=true
 mul:aO.new (aS.mul a.N b.N) (aS.mul a.D b.D)=ofQ (bI a*bI b)∧aO.newOK (aS.mul a.N b.N) (aS.mul a.D b.D)=true
 div:bI b≠0→aO.new (aS.mul a.N b.D) (aS.mul a.D b.N)=ofQ (bI a / bI b)∧aO.newOK (aS.mul a.N b.D) (aS.mul a.D b.N)=true
theorem IH {a b:Rt} (h:dK a b=true):RB a b:=by
 obtain⟨ha,hb⟩:=eY h
 obtain⟨k1,k2,k3,k4,k5⟩:=QE ha hb
 have hs:Sm 1001 (aK a.N*aK b.D+aK b.N*aK a.D):=k1.2.2.add k2.2.2
 have e:=Rz k1.2.1 k2.2.1 (hs.fit (by decide))
 refine⟨k1.1,k2.1,k3.1,k4.1,k5.1,e.2.1,?_,?_,?_,fun h0=>?_⟩
 ·show sgn (aK (aS.mul a.N b.D)) (aK (aS.mul b.N a.D))=_
  rw[k1.2.1,k2.2.1]
  exact IQ ha.is hb.is
 ·have hn:uV (aS.add (aS.mul a.N b.D) (aS.mul b.N a.D)) (aS.mul a.D b.D)=true:=
   uW (by rw[e.2.2];exact hs.mono (by decide)) (by rw[k3.2.1];exact k3.2.2.mono (by decide)) (by rw[k3.2.1];exact amP ha.is.p hb.is.p) (FO _ _) (mV _ _)
  exact⟨by rw[Br hn,e.2.2,k3.2.1,lG ha.is hb.is],hn⟩
 ·have hn:uV (aS.mul a.N b.N) (aS.mul a.D b.D)=true:=
   uW (by rw[k4.2.1];exact k4.2.2.mono (by decide)) (by rw[k3.2.1];exact k3.2.2.mono (by decide)) (by rw[k3.2.1];exact amP ha.is.p hb.is.p) (mV _ _) (mV _ _)
  exact⟨by rw[Br hn,k4.2.1,k3.2.1,nJ],hn⟩
 ·have hz:aK b.N≠0:=fun h=>h0 ((fM hb.is).2 h)
  have hn:uV (aS.mul a.N b.D) (aS.mul a.D b.N)=true:=
   uW (by rw[k1.2.1];exact k1.2.2.mono (by decide)) (by rw[k5.2.1];exact k5.2.2.mono (by decide)) (by rw[k5.2.1];exact Int.mul_ne_zero (by have:=ha.is.p;omega) hz) (mV _ _) (mV _ _)
  exact⟨by rw[Br hn,k1.2.1,k5.2.1,lH],hn⟩
structure HJ (A:Alg) (a b:Rt):Prop where
 c:sgn (A.bin .mul .i64 (aO.smN a) (aO.smD b)) (A.bin .mul .i64 (aO.smN b) (aO.smD a))=cZ (bI a) (bI b)
 o1:aO.b62 (A.bin .add .i64 (A.bin .mul .i64 (aO.smN a) (aO.smD b)) (A.bin .mul .i64 (aO.smN b) (aO.smD a)))=true
 o2:aO.b62 (A.bin .mul .i64 (aO.smD a) (aO.smD b))=true
 o3:A.cmp .neq (A.bin .mul .i64 (aO.smD a) (aO.smD b)) 0=true
 add:aO.made (A.bin .add .i64 (A.bin .mul .i64 (aO.smN a) (aO.smD b)) (A.bin .mul .i64 (aO.smN b) (aO.smD a))) (A.bin .mul .i64 (aO.smD a) (aO.smD b))=ofQ (bI a+bI b)
 o4:aO.b62 (A.bin .sub .i64 (A.bin .mul .i64 (aO.smN a) (aO.smD b)) (A.bin .mul .i64 (aO.smN b) (aO.smD a)))=true
 sub:aO.made (A.bin .sub .i64 (A.bin .mul .i64 (aO.smN a) (aO.smD b)) (A.bin .mul .i64 (aO.smN b) (aO.smD a))) (A.bin .mul .i64 (aO.smD a) (aO.smD b))=ofQ (bI a - bI b)
 o5:aO.b62 (A.bin .mul .i64 (aO.smN a) (aO.smN b))=true
 mul:aO.made (A.bin .mul .i64 (aO.smN a) (aO.smN b)) (A.bin .mul .i64 (aO.smD a) (aO.smD b))=ofQ (bI a*bI b)
 o6:aO.b62 (A.bin .mul .i64 (aO.smN a) (aO.smD b))=true
 o7:aO.b62 (A.bin .mul .i64 (aO.smD a) (aO.smN b))=true
 o8:A.cmp .neq (aO.smN b) 0=true→A.cmp .neq (A.bin .mul .i64 (aO.smD a) (aO.smN b)) 0=true
 div:aO.made (A.bin .mul .i64 (aO.smN a) (aO.smD b)) (A.bin .mul .i64 (aO.smD a) (aO.smN b))=ofQ (bI a / bI b)
 z:A.cmp .neq (aO.smN b) 0=decide (bI b≠0)
theorem Er {a b:Rt} (ha:smB a=true) (hb:smB b=true) (A:Alg) (hA:A=aA):HJ A a b:=by
 subst hA
 obtain⟨sa,an,ad⟩:=Hi ha
 obtain⟨sb,bn,bd⟩:=Hi hb
 have b62: ∀ z:Int,Sm 61 z→aO.b62 z=true:=fun z hz=>by
  have hz:z.natAbs < 2 ^ 61:=hz
  show(decide (-4611686018427387904≤z)&&decide (z≤4611686018427387904))=true
  rw[Bool.and_eq_true,decide_eq_true_eq,decide_eq_true_eq]
  omega
 have mu: ∀ x y:Int,Sm 30 x→Sm 30 y→aA.bin .mul .i64 x y=x*y∧Sm 60 (x*y):=fun x y hx hy=>by
  have h:Sm 60 (x*y):=hx.mul hy
  have h':(x*y).natAbs < 2 ^ 60:=h
  refine⟨?_,h⟩
  show IntKind.i64.wrap (x*y)=_
  rw[IntKind.wrap_i64];omega
 have adl: ∀ x y:Int,Sm 60 x→Sm 60 y→aA.bin .add .i64 x y=x+y∧Sm 61 (x+y):=fun x y hx hy=>by
  have h:Sm 61 (x+y):=hx.add hy
  have h':(x+y).natAbs < 2 ^ 61:=h
  refine⟨?_,h⟩
  show IntKind.i64.wrap (x+y)=_
  rw[IntKind.wrap_i64];omega
 have sul: ∀ x y:Int,Sm 60 x→Sm 60 y→aA.bin .sub .i64 x y=x - y∧Sm 61 (x - y):=fun x y hx hy=>by
  have h:Sm 61 (x - y):=hx.sub hy
  have h':(x - y).natAbs < 2 ^ 61:=h
  refine⟨?_,h⟩
  show IntKind.i64.wrap (x - y)=_
  rw[IntKind.wrap_i64];omega
 obtain⟨m1,s1⟩:=mu _ _ sa.n sb.d
 obtain⟨m2,s2⟩:=mu _ _ sb.n sa.d
 obtain⟨m3,s3⟩:=mu _ _ sa.d sb.d
 obtain⟨m4,s4⟩:=mu _ _ sa.n sb.n
 obtain⟨m5,s5⟩:=mu _ _ sa.d sb.n
 obtain⟨m6,s6⟩:=adl _ _ s1 s2
 obtain⟨m7,s7⟩:=sul _ _ s1 s2
 have hz:bI b=0↔aK b.N=0:=fM sb.is
 have nez: ∀ x:Int,x≠0→aA.cmp .neq x 0=true:=fun x hx=>by show(x != 0)=true;rw[bne_iff_ne];exact hx
 refine⟨?_,?_,?_,?_,?_,?_,?_,?_,?_,?_,?_,fun h=>?_,?_,?_⟩
 all_goals (try rw[an]);(try rw[ad]);(try rw[bn]);(try rw[bd])
 ·rw[m1,m2];exact IQ sa.is sb.is
 ·rw[m1,m2,m6];exact b62 _ s6
 ·rw[m3];exact b62 _ (s3.mono (by decide))
 ·rw[m3];exact nez _ (amP sa.is.p sb.is.p)
 ·rw[m1,m2,m3,m6];show ofQ (Rat.divInt _ _)=_;rw[lG sa.is sb.is]
 ·rw[m1,m2,m7];exact b62 _ s7
 ·rw[m1,m2,m3,m7];show ofQ (Rat.divInt _ _)=_;rw[pQ sa.is sb.is]
 ·rw[m4];exact b62 _ (s4.mono (by decide))
 ·rw[m4,m3];show ofQ (Rat.divInt _ _)=_;rw[nJ]
 ·rw[m1];exact b62 _ (s1.mono (by decide))
 ·rw[m5];exact b62 _ (s5.mono (by decide))
 ·rw[m5]
  refine nez _ (Int.mul_ne_zero (by have:=sa.is.p;omega) ?_)
  have h:(aO.smN b != 0)=true:=h
  rw[bn,bne_iff_ne] at h
  exact h
 ·rw[m1,m5];show ofQ (Rat.divInt _ _)=_;rw[lH]
 ·show(aK b.N != 0)=decide (bI b≠0)
  by_cases h:aK b.N=0
  ·rw[decide_eq_false (by simp[hz.2 h]),h];rfl
  ·rw[decide_eq_true (show bI b≠0 from fun h'=>h (hz.1 h')),bne_iff_ne];exact h
theorem Qc {r:Rt} {k:Nat} (h:l6 r k):l6 (aO.neg r) k∧bI (aO.neg r)= -bI r:=by
 have hw:=pT r.N
 constructor
 ·refine⟨⟨uN _,h.is.d,h.is.p,?_⟩,?_,h.d⟩
  ·show Int.gcd (aK (aV.neg r.N)) (aK r.D)=1
   rw[hw,Int.neg_gcd];exact h.is.g
  ·show Sm k (aK (aV.neg r.N))
   rw[hw];exact h.n.neg
 ·show Rat.divInt (aK (aV.neg r.N)) (aK r.D)=_
  rw[hw]
  unfold bI
  rw[Rat.neg_divInt]
structure Cal (r:Rt) (q:Rat) (k:Nat):Prop where
 s:l6 r k
 v:bI r=q
theorem l6.mono {r:Rt} {j k:Nat} (h:l6 r j) (hk:j≤k):l6 r k:=⟨h.is,h.n.mono hk,h.d.mono hk⟩
theorem Cal.mono {r:Rt} {q:Rat} {j k:Nat} (h:Cal r q j) (hk:j≤k):Cal r q k:=⟨h.s.mono hk,h.v⟩
theorem Cal.of {r:Rt} {k:Nat} (h:l6 r k):Cal r (bI r) k:=⟨h,rfl⟩
theorem Cal.eq {r:Rt} {q:Rat} {k:Nat} (h:Cal r q k):r=ofQ q:=by rw[← h.v,uZ h.s.is]
theorem Cal.q {q:Rat} {k:Nat} (h:SmQ k q) (hk:k≤1024):Cal (ofQ q) q k:=⟨l6.ofQ h hk,G7 (h.fit hk)⟩
theorem Cal.inj {r s:Rt} {p q:Rat} {j k:Nat} (hr:Cal r p j) (hs:Cal s q k) (h:p=q):r=s:=by rw[hr.eq,hs.eq,h]
theorem Cal.sm {r:Rt} {q:Rat} {k:Nat} (h:Cal r q k):SmQ k q:=by rw[← h.v];exact h.s.q
theorem tM {a b:Rt} {j k:Nat} (ha:l6 a j) (hb:l6 b k) (hj:j≤500) (hk:k≤500):dK a b=true:=by
 unfold dK
 rw[l5 ha (by omega),l5 hb (by omega)];rfl
theorem Cal.add {a b:Rt} {p q:Rat} {k:Nat} (ha:Cal a p k) (hb:Cal b q k) (hk:k≤500):aO.two a b=true∧Cal (aO.add a b) (p+q) (2*k+1):=by
 have h2:dK a b=true:=tM ha.s hb.s hk hk
 refine⟨h2,?_⟩
 have e:aO.add a b=ofQ (p+q):=by show(if dK a b=true then _ else _)=_;rw[h2,ha.v,hb.v];rfl
 rw[e]
 refine Cal.q ?_ (by omega)
 rw[← ha.v, ← hb.v, ← lG ha.s.is hb.s.is]
 have s1:Sm (2*k) (aK a.N*aK b.D):=by rw[Nat.two_mul];exact ha.s.n.mul hb.s.d
 have s2:Sm (2*k) (aK b.N*aK a.D):=by rw[Nat.two_mul];exact hb.s.n.mul ha.s.d
 have s3:Sm (2*k) (aK a.D*aK b.D):=by rw[Nat.two_mul];exact ha.s.d.mul hb.s.d
 exact SmQ.div (s1.add s2) (s3.mono (by omega)) (amP ha.s.is.p hb.s.is.p)
theorem Cal.sub {a b:Rt} {p q:Rat} {k:Nat} (ha:Cal a p k) (hb:Cal b q k) (hk:k≤500):aO.two a b=true∧Cal (aO.sub a b) (p - q) (2*k+1):=by
 have h2:dK a b=true:=tM ha.s hb.s hk hk
 refine⟨h2,?_⟩
 have e:aO.sub a b=ofQ (p - q):=by show(if dK a b=true then _ else _)=_;rw[h2,ha.v,hb.v];rfl
 rw[e]
 refine Cal.q ?_ (by omega)
 rw[← ha.v, ← hb.v, ← pQ ha.s.is hb.s.is]
 have s1:Sm (2*k) (aK a.N*aK b.D):=by rw[Nat.two_mul];exact ha.s.n.mul hb.s.d
 have s2:Sm (2*k) (aK b.N*aK a.D):=by rw[Nat.two_mul];exact hb.s.n.mul ha.s.d
 have s3:Sm (2*k) (aK a.D*aK b.D):=by rw[Nat.two_mul];exact ha.s.d.mul hb.s.d
 exact SmQ.div (s1.sub s2) (s3.mono (by omega)) (amP ha.s.is.p hb.s.is.p)
theorem Cal.mul {a b:Rt} {p q:Rat} {k:Nat} (ha:Cal a p k) (hb:Cal b q k) (hk:k≤500):aO.two a b=true∧Cal (aO.mul a b) (p*q) (2*k):=by
 have h2:dK a b=true:=tM ha.s hb.s hk hk
 refine⟨h2,?_⟩
 have e:aO.mul a b=ofQ (p*q):=by show(if dK a b=true then _ else _)=_;rw[h2,ha.v,hb.v];rfl
 rw[e]
 refine Cal.q ?_ (by omega)
 rw[← ha.v, ← hb.v, ← nJ,Nat.two_mul]
 exact SmQ.div (ha.s.n.mul hb.s.n) (ha.s.d.mul hb.s.d) (amP ha.s.is.p hb.s.is.p)
theorem Cal.div {a b:Rt} {p q:Rat} {k:Nat} (ha:Cal a p k) (hb:Cal b q k) (hk:k≤500) (h0:q≠0):aO.divOK a b=true∧Cal (aO.div a b) (p / q) (2*k):=by
 have h2:dK a b=true:=tM ha.s hb.s hk hk
 have h3:(dK a b&&decide (bI b≠0))=true:=by rw[h2,hb.v,decide_eq_true h0];rfl
 refine⟨h3,?_⟩
 have e:aO.div a b=ofQ (p / q):=by show(if(dK a b&&decide (bI b≠0))=true then _ else _)=_;rw[h3,ha.v,hb.v];rfl
 rw[e]
 refine Cal.q ?_ (by omega)
 have hz:aK b.N≠0:=fun h=>h0 (by rw[← hb.v];exact(fM hb.s.is).2 h)
 rw[← ha.v, ← hb.v, ← lH,Nat.two_mul]
 exact SmQ.div (ha.s.n.mul hb.s.d) (ha.s.d.mul hb.s.n) (Int.mul_ne_zero (by have:=ha.s.is.p;omega) hz)
theorem Cal.cmp {a b:Rt} {p q:Rat} {k:Nat} (ha:Cal a p k) (hb:Cal b q k) (hk:k≤500):aO.two a b=true∧aO.cmp a b=cZ p q:=by
 have h2:dK a b=true:=tM ha.s hb.s hk hk
 refine⟨h2,?_⟩
 show(if dK a b=true then _ else _)=_
 rw[h2,ha.v,hb.v];rfl
theorem Cal.sign {a:Rt} {p:Rat} {k:Nat} (ha:Cal a p k):aO.sign a=cZ p 0:=by
 show sgn _ _=_
 rw[Eg ha.s.is,ha.v]
theorem Ll {k:Nat} {z:Int} (hz:Sm k z) (hk:1≤k):SmQ k (z:Rat):=by
 refine⟨?_,?_⟩
 ·rw[Rat.num_intCast];exact hz
 ·rw[Rat.den_intCast]
  show(1:Int).natAbs < 2 ^ k
  have:=Nat.pow_lt_pow_right (a:=2) (by decide) (show 0 < k by omega)
  omega
theorem Cal.int {k:Nat} {z:Int} (hz:Sm k z) (hk:1≤k) (h:k≤1024):Cal (ofQ (z:Rat)) (z:Rat) k:=Cal.q (Ll hz hk) h
theorem q8 {x:Int} (hx:Sm 64 x):aO.new (aV.from64 x) (aV.from64 1)=ofQ (x:Rat)∧aO.newOK (aV.from64 x) (aV.from64 1)=true∧(⟨aV.from64 x,aV.from64 1⟩:Rt)=ofQ (x:Rat):=by
 have e1:aK (aV.from64 x)=x:=dV (hx.fit (by decide))
 have e2:aK (aV.from64 1)=1:=E7 (by decide)
 have hn:uV (aV.from64 x) (aV.from64 1)=true:=uW (by rw[e1];exact hx.mono (by decide)) (by rw[e2];show(1:Int).natAbs < 2 ^ 1023;decide) (by rw[e2];decide) (jO _) (jO _)
 refine⟨?_,hn,?_⟩
 ·rw[Br hn,e1,e2]
  have h:=Rat.num_divInt_den (x:Rat)
  rw[Rat.num_intCast,Rat.den_intCast] at h
  exact congrArg ofQ h
 ·unfold ofQ
  rw[Rat.num_intCast,Rat.den_intCast]
  rfl
def dJ (p:Pt):Bool:=cQ p.X 60&&cQ p.Y 60
def dX (l:List Pt):Bool:=l.all dJ
structure mE (p:Pt):Prop where
 x:l6 p.X 60
 y:l6 p.Y 60
theorem e9 {p:Pt} (h:dJ p=true):mE p:=by
 unfold dJ at h
 rw[Bool.and_eq_true] at h
 exact⟨pR h.1 (by decide),pR h.2 (by decide)⟩
theorem fJ {p:Pt} :dJ p=true↔mE p:=⟨e9,fun h=>by unfold dJ;rw[l5 h.x (by decide),l5 h.y (by decide)];rfl⟩
def px (p:Pt):Rat:=bI p.X
def py (p:Pt):Rat:=bI p.Y
def bB (a b c:Pt):Rat:=(px b - px a)*(py c - py a) - (py b - py a)*(px c - px a)
def gY (a b c:Pt):Rat:=(px b - px a)*(px c - px a)+(py b - py a)*(py c - py a)
structure SH where
 at_:Int→Int→Pt
 all:List Pt→Bool
 cmp:Pt→Pt→Int
 cross:Pt→Pt→Pt→Rt
 dot:Pt→Pt→Pt→Rt
 turn:Pt→Pt→Pt→Int
 mid:List Pt→Pt
 midOK:List Pt→Bool
 ends:Bool→Rt→Rt
 xs:List Pt→List Rt
 ys:List Pt→List Rt
 whole:Int→Rt
 half:Int→Rt
def HF:Pt:=⟨cN,cN⟩
def iQ (a b:Pt):Int:=if cZ (px a) (px b)≠0 then cZ (px a) (px b) else cZ (py a) (py b)
def Hk:List Rat→Rat
 | []=>0
 | q :: r=>q+Hk r
def J7 (l:List Pt):Bool:=decide (l.length≠0)&&(decide (l.length≤4)&&dX l)
def Qb (l:List Pt):Pt:=⟨ofQ (Hk (l.map px) / (l.length:Int)),ofQ (Hk (l.map py) / (l.length:Int))⟩
def bD:SH where
 at_ x y:=⟨ofQ (x:Rat),ofQ (y:Rat)⟩
 all:=dX
 cmp a b:=if dX [a,b] then iQ a b else 0
 cross a b c:=if dX [a,b,c] then ofQ (bB a b c) else cN
 dot a b c:=if dX [a,b,c] then ofQ (gY a b c) else cN
 turn a b c:=if dX [a,b,c] then cZ (bB a b c) 0 else 0
 mid l:=if J7 l then Qb l else HF
 midOK:=J7
 ends c r:=if c then cN else r
 xs l:=l.map Pt.X
 ys l:=l.map Pt.Y
 whole z:=ofQ (z:Rat)
 half z:=ofQ ((z:Rat) / 2)
structure AtP (p:Pt) (x y:Int):Prop where
 is:dJ p=true
 x:px p=x
 y:py p=y
theorem mE.eq {p:Pt} (h:mE p):p=⟨ofQ (px p),ofQ (py p)⟩:=by
 have e1:ofQ (px p)=p.X:=uZ h.x.is
 have e2:ofQ (py p)=p.Y:=uZ h.y.is
 rw[e1,e2]
theorem mE.inj {p q:Pt} (hp:mE p) (hq:mE q) (hx:px p=px q) (hy:py p=py q):p=q:=by rw[hp.eq,hq.eq,hx,hy]
theorem anX {l:List Pt} (h: ∀ p,p∈l→dJ p=true):dX l=true:=List.all_eq_true.2 h
theorem AL {a b c:Pt} (ha:dJ a=true) (hb:dJ b=true) (hc:dJ c=true):dX [a,b,c]=true:=by
 show(dJ a&&(dJ b&&(dJ c&&true)))=true
 rw[ha,hb,hc];rfl
theorem Po {a b:Pt} (ha:dJ a=true) (hb:dJ b=true):dX [a,b]=true:=by
 show(dJ a&&(dJ b&&true))=true
 rw[ha,hb];rfl
theorem Fv {a b c:Pt} (h:dX [a,b,c]=true):bD.cross a b c=ofQ (bB a b c):=if_pos h
theorem M8 {a b c:Pt} (h:dX [a,b,c]=true):bD.dot a b c=ofQ (gY a b c):=if_pos h
theorem kN {a b c:Pt} (h:dX [a,b,c]=true):bD.turn a b c=cZ (bB a b c) 0:=if_pos h
theorem zG {a b:Pt} (h:dX [a,b]=true):bD.cmp a b=iQ a b:=if_pos h
theorem aqL {l:List Pt} (h:J7 l=true):bD.mid l=Qb l:=if_pos h
theorem apX {l:List Pt} (h0:l.length≠0) (h4:l.length≤4) (h:dX l=true):J7 l=true:=by
 unfold J7
 rw[decide_eq_true h0,decide_eq_true h4,h];rfl
theorem dH (a b:Rat):(a < b∧cZ a b= -1∧cZ b a=1)∨(a=b∧cZ a b=0∧cZ b a=0)∨(b < a∧cZ a b=1∧cZ b a= -1):=by
 unfold cZ
 by_cases h1:a < b
 ·have h2: ¬ b < a:=by grind
  exact .inl ⟨h1,by rw[if_pos h1],by rw[if_neg h2,if_pos h1]⟩
 ·by_cases h2:b < a
  ·exact .inr (.inr ⟨h2,by rw[if_neg h1,if_pos h2],by rw[if_pos h2]⟩)
  ·have e:a=b:=Rat.le_antisymm (Rat.not_lt.1 h2) (Rat.not_lt.1 h1)
   exact .inr (.inl ⟨e,by rw[if_neg h1,if_neg h2],by rw[if_neg h2,if_neg h1]⟩)
theorem jE (a b:Pt):((px a < px b∨(px a=px b∧py a < py b))∧iQ a b= -1∧iQ b a=1)∨(px a=px b∧py a=py b∧iQ a b=0∧iQ b a=0)∨((px b < px a∨(px a=px b∧py b < py a))∧iQ a b=1∧iQ b a= -1):=by
 unfold iQ
 rcases dH (px a) (px b) with ⟨h,e1,e2⟩ | ⟨h,e1,e2⟩ | ⟨h,e1,e2⟩
 ·rw[e1,e2];exact .inl ⟨.inl h,rfl,rfl⟩
 ·rw[e1,e2]
  rcases dH (py a) (py b) with ⟨h',e3,e4⟩ | ⟨h',e3,e4⟩ | ⟨h',e3,e4⟩
  ·rw[e3,e4];exact .inl ⟨.inr ⟨h,h'⟩,rfl,rfl⟩
  ·rw[e3,e4];exact .inr (.inl ⟨h,h',rfl,rfl⟩)
  ·rw[e3,e4];exact .inr (.inr ⟨.inr ⟨h,h'⟩,rfl,rfl⟩)
 ·rw[e1,e2];exact .inr (.inr ⟨.inl h,rfl,rfl⟩)
theorem tV {a b c:Pt} (h1:iQ a b < 0) (h2:iQ b c < 0):iQ a c < 0:=by
 rcases jE a b with ⟨k1,e1,_⟩ | ⟨_,_,e1,_⟩ | ⟨_,e1,_⟩
 ·rcases jE b c with ⟨k2,e2,_⟩ | ⟨_,_,e2,_⟩ | ⟨_,e2,_⟩
  ·rcases jE a c with ⟨_,e3,_⟩ | ⟨k3,k4,e3,_⟩ | ⟨k3,e3,_⟩
   ·omega
   ·exfalso;grind
   ·exfalso;grind
  ·omega
  ·omega
 ·omega
 ·omega
structure SK where
 tyN:Rt→Int
 tyD:Rt→Int
 tyOK:Rt→Bool
 b63:Int→Bool
 b31:Int→Bool
 plus:Bool→Rt→Rt→Rt
def tyB (r:Rt):Bool:=decide (r.N.d.n < 2 ^ 31)&&(decide (r.D.d.n < 2 ^ 31)&&Bj r)
def cA:SK where
 tyN r:=if tyB r then aK r.N else 0
 tyD r:=if tyB r then aK r.D else 0
 tyOK:=tyB
 b63 n:=decide (-9223372036854775807≤n)&&decide (n≤9223372036854775807)
 b31 n:=decide (-2147483648≤n)&&decide (n≤2147483648)
 plus l a b:=if l then aO.sub a b else aO.add a b
theorem lW {n:Int} :cA.b63 n=true↔ -9223372036854775807≤n∧n≤9223372036854775807:=by
 show(decide (-9223372036854775807≤n)&&decide (n≤9223372036854775807))=true↔_
 rw[Bool.and_eq_true,decide_eq_true_eq,decide_eq_true_eq]
theorem BU {r:Rt} (h:tyB r=true):l6 r 31∧cA.tyN r=aK r.N∧cA.tyD r=aK r.D:=by
 have e1:cA.tyN r=aK r.N:=by show(if tyB r=true then _ else _)=_;rw[h];rfl
 have e2:cA.tyD r=aK r.D:=by show(if tyB r=true then _ else _)=_;rw[h];rfl
 unfold tyB at h
 rw[Bool.and_eq_true,Bool.and_eq_true] at h
 have h1:r.N.d.n < 2 ^ 31:=of_decide_eq_true h.1
 have h2:r.D.d.n < 2 ^ 31:=of_decide_eq_true h.2.1
 exact⟨⟨lC.1 h.2.2,by unfold Sm;rw[bF];exact h1,by unfold Sm;rw[bF];exact h2⟩,e1,e2⟩
theorem AB {a b:Rt} (ha:tyB a=true) (hb:tyB b=true):dK a b=true:=by
 unfold dK
 rw[l5 (BU ha).1 (by decide),l5 (BU hb).1 (by decide)];rfl
structure pW (A:Alg) (a b:Rt):Prop where
 lt:A.cmp .lss (A.bin .mul .i64 (cA.tyN a) (cA.tyD b)) (A.bin .mul .i64 (cA.tyN b) (cA.tyD a))=decide (bI a < bI b)
 gt:A.cmp .gtr (A.bin .mul .i64 (cA.tyN a) (cA.tyD b)) (A.bin .mul .i64 (cA.tyN b) (cA.tyD a))=decide (bI b < bI a)
 o1:cA.b63 (A.bin .add .i64 (A.bin .mul .i64 (cA.tyN a) (cA.tyD b)) (A.bin .mul .i64 (cA.tyN b) (cA.tyD a)))=true
 o2:cA.b63 (A.bin .mul .i64 (cA.tyD a) (cA.tyD b))=true
 o3:A.cmp .gtr (A.bin .mul .i64 (cA.tyD a) (cA.tyD b)) 0=true
 add:aO.made (A.bin .add .i64 (A.bin .mul .i64 (cA.tyN a) (cA.tyD b)) (A.bin .mul .i64 (cA.tyN b) (cA.tyD a))) (A.bin .mul .i64 (cA.tyD a) (cA.tyD b))=ofQ (bI a+bI b)
 o4:cA.b63 (A.bin .add .i64 (A.bin .mul .i64 (cA.tyN a) (cA.tyD b)) (A.bin .mul .i64 (A.bin .sub .i64 0 (cA.tyN b)) (cA.tyD a)))=true
 sub:aO.made (A.bin .add .i64 (A.bin .mul .i64 (cA.tyN a) (cA.tyD b)) (A.bin .mul .i64 (A.bin .sub .i64 0 (cA.tyN b)) (cA.tyD a))) (A.bin .mul .i64 (cA.tyD a) (cA.tyD b))=ofQ (bI a - bI b)
 o5:cA.b63 (A.bin .mul .i64 (cA.tyN a) (cA.tyN b))=true
 mul:aO.made (A.bin .mul .i64 (cA.tyN a) (cA.tyN b)) (A.bin .mul .i64 (cA.tyD a) (cA.tyD b))=ofQ (bI a*bI b)
 z:A.cmp .neq (cA.tyN b) 0=decide (bI b≠0)
 p1:A.cmp .neq (cA.tyN b) 0=true→A.cmp .lss (cA.tyN b) 0=false→cA.b63 (A.bin .mul .i64 (cA.tyN a) (cA.tyD b))=true∧cA.b63 (A.bin .mul .i64 (cA.tyD a) (cA.tyN b))=true∧A.cmp .gtr (A.bin .mul .i64 (cA.tyD a) (cA.tyN b)) 0=true∧
  aO.made (A.bin .mul .i64 (cA.tyN a) (cA.tyD b)) (A.bin .mul .i64 (cA.tyD a) (cA.tyN b))=ofQ (bI a / bI b)
 p2:A.cmp .neq (cA.tyN b) 0=true→A.cmp .lss (cA.tyN b) 0=true→cA.b63 (A.bin .mul .i64 (A.bin .sub .i64 0 (cA.tyN a)) (cA.tyD b))=true∧cA.b63 (A.bin .mul .i64 (cA.tyD a) (A.bin .sub .i64 0 (cA.tyN b)))=true∧A.cmp .gtr (A.bin .mul .i64 (cA.tyD a) (A.bin .sub .i64 0 (cA.tyN b))) 0=true∧
  aO.made (A.bin .mul .i64 (A.bin .sub .i64 0 (cA.tyN a)) (cA.tyD b)) (A.bin .mul .i64 (cA.tyD a) (A.bin .sub .i64 0 (cA.tyN b)))=ofQ (bI a / bI b)
theorem vG {a b:Rt} (ha:tyB a=true) (hb:tyB b=true) (A:Alg) (hA:A=aA):pW A a b:=by
 subst hA
 obtain⟨sa,an,ad⟩:=BU ha
 obtain⟨sb,bn,bd⟩:=BU hb
 have b63: ∀ z:Int,Sm 63 z→cA.b63 z=true:=fun z hz=>by
  have hz:z.natAbs < 2 ^ 63:=hz
  rw[lW]
  omega
 have mu: ∀ x y:Int,Sm 31 x→Sm 31 y→aA.bin .mul .i64 x y=x*y∧Sm 62 (x*y):=fun x y hx hy=>by
  have h:Sm 62 (x*y):=hx.mul hy
  have h':(x*y).natAbs < 2 ^ 62:=h
  refine⟨?_,h⟩
  show IntKind.i64.wrap (x*y)=_
  rw[IntKind.wrap_i64];omega
 have adl: ∀ x y:Int,Sm 62 x→Sm 62 y→aA.bin .add .i64 x y=x+y∧Sm 63 (x+y):=fun x y hx hy=>by
  have h:Sm 63 (x+y):=hx.add hy
  have h':(x+y).natAbs < 2 ^ 63:=h
  refine⟨?_,h⟩
  show IntKind.i64.wrap (x+y)=_
  rw[IntKind.wrap_i64];omega
 have ng: ∀ x:Int,Sm 31 x→aA.bin .sub .i64 0 x= -x∧Sm 31 (-x):=fun x hx=>by
  have h':x.natAbs < 2 ^ 31:=hx
  refine⟨?_,hx.neg⟩
  show IntKind.i64.wrap (0 - x)=_
  rw[IntKind.wrap_i64];omega
 obtain⟨m1,s1⟩:=mu _ _ sa.n sb.d
 obtain⟨m2,s2⟩:=mu _ _ sb.n sa.d
 obtain⟨m3,s3⟩:=mu _ _ sa.d sb.d
 obtain⟨m4,s4⟩:=mu _ _ sa.n sb.n
 obtain⟨m5,s5⟩:=mu _ _ sa.d sb.n
 obtain⟨m6,s6⟩:=adl _ _ s1 s2
 obtain⟨n1,t1⟩:=ng _ sb.n
 obtain⟨n2,t2⟩:=ng _ sa.n
 obtain⟨m7,s7⟩:=mu _ _ t1 sa.d
 obtain⟨m8,s8⟩:=adl _ _ s1 s7
 obtain⟨m9,s9⟩:=mu _ _ t2 sb.d
 obtain⟨m0,s0⟩:=mu _ _ sa.d t1
 have hz:bI b=0↔aK b.N=0:=fM sb.is
 have hc:=IQ sa.is sb.is
 obtain⟨a1,a2⟩:=iJ sa.is
 obtain⟨b1,b2⟩:=iJ sb.is
 have e1:bI a < bI b↔aK a.N*aK b.D < aK b.N*aK a.D:=by rw[Rat.lt_iff,a1,a2,b1,b2]
 have e2:bI b < bI a↔aK b.N*aK a.D < aK a.N*aK b.D:=by rw[Rat.lt_iff,a1,a2,b1,b2]
 have pa:=sa.is.p
 have pb:=sb.is.p
 have sm: ∀ z:Int,Sm 62 z→cA.b63 z=true:=fun z hz=>b63 z (hz.mono (by decide))
 refine⟨?_,?_,?_,?_,?_,?_,?_,?_,?_,?_,?_,fun h h'=>?_,fun h h'=>?_⟩
 all_goals (try rw[an]);(try rw[ad]);(try rw[bn]);(try rw[bd])
 ·rw[m1,m2];show decide _=decide _;rw[decide_eq_decide];exact e1.symm
 ·rw[m1,m2];show decide _=decide _;rw[decide_eq_decide];exact e2.symm
 ·rw[m1,m2,m6];exact b63 _ s6
 ·rw[m3];exact sm _ s3
 ·rw[m3];exact decide_eq_true (Int.mul_pos pa pb)
 ·rw[m1,m2,m3,m6];show ofQ (Rat.divInt _ _)=_;rw[lG sa.is sb.is]
 ·rw[m1,n1,m7,m8];exact b63 _ s8
 ·rw[m1,n1,m7,m8,m3];show ofQ (Rat.divInt _ _)=_;rw[← pQ sa.is sb.is,Int.neg_mul, ← Int.sub_eq_add_neg]
 ·rw[m4];exact sm _ s4
 ·rw[m4,m3];show ofQ (Rat.divInt _ _)=_;rw[nJ]
 ·show(aK b.N != 0)=decide (bI b≠0)
  by_cases h:aK b.N=0
  ·rw[decide_eq_false (by simp[hz.2 h]),h];rfl
  ·rw[decide_eq_true (show bI b≠0 from fun h'=>h (hz.1 h')),bne_iff_ne];exact h
 ·rw[bn] at h h'
  have h:(aK b.N != 0)=true:=h
  rw[bne_iff_ne] at h
  have h': ¬ aK b.N < 0:=of_decide_eq_false h'
  rw[m1,m5]
  refine⟨sm _ s1,sm _ s5,decide_eq_true (Int.mul_pos pa (by omega)),?_⟩
  show ofQ (Rat.divInt _ _)=_;rw[lH]
 ·rw[bn] at h h'
  have h':aK b.N < 0:=of_decide_eq_true h'
  rw[n1,n2,m9,m0]
  refine⟨sm _ s9,sm _ s0,decide_eq_true (Int.mul_pos pa (by omega)),?_⟩
  show ofQ (Rat.divInt _ _)=_
  rw[Int.neg_mul,Int.mul_neg,Rat.neg_divInt_neg,lH]
theorem rsq (x:Rat):0≤x*x:=by
 rcases(Rat.le_total:0≤x∨x≤0) with h | h
 ·exact Rat.mul_nonneg h h
 ·have:=Rat.mul_nonneg (a:= -x) (b:= -x) (by grind) (by grind);grind
theorem Al {x:Rat} (h:x*x=0):x=0:=by
 rcases Rat.mul_eq_zero.1 h with h | h <;> exact h
theorem Wa {x:Rat} (h:x≠0):0 < x*x:=by
 have:=rsq x
 rcases Rat.le_iff_lt_or_eq.1 this with h1 | h1
 ·exact h1
 ·exact absurd (Al h1.symm) h
theorem Hj {x y:Rat} (h:x*x+y*y≤0):x=0∧y=0:=by
 have h1:=rsq x
 have h2:=rsq y
 exact⟨Al (by grind),Al (by grind)⟩
theorem XT {x y:Rat} (h:x≠0∨y≠0):0 < x*x+y*y:=by
 have h1:=rsq x
 have h2:=rsq y
 rcases h with h | h
 ·have:=Wa h;grind
 ·have:=Wa h;grind
theorem Bp {a b:Rat} (ha:0 < a) (hb:b < 0):a*b < 0:=by
 have:=Rat.mul_pos (a:=a) (b:= -b) ha (by grind);grind
theorem uY {a b:Rat} (ha:0 < a) (h:0≤a*b):0≤b:=by
 rcases(Rat.le_total:0≤b∨b≤0) with h1 | h1
 ·exact h1
 ·rcases Rat.le_iff_lt_or_eq.1 h1 with h2 | h2
  ·have:=Bp ha h2;grind
  ·grind
def Mp (x y:Rat):Prop:=0 < x∨(x=0∧0 < y)
theorem yF {ux uy vx vy:Rat} (hc:ux*vy - uy*vx=0) (hu:Mp ux uy) (hv:Mp vx vy):0 < ux*vx+uy*vy:=by
 rcases hu with hu | ⟨hu,hu'⟩
 ·rcases hv with hv | ⟨hv,hv'⟩
  ·have h1:=Rat.mul_pos hu hv
   have h2:0≤(ux*vx)*(uy*vy):=by
    have e:(ux*vx)*(uy*vy)=(uy*vx)*(uy*vx):=by grind
    rw[e];exact rsq _
   have:=uY h1 h2
   grind
  ·have h1:=Rat.mul_pos hu hv'
   have e:ux*vy=0:=by grind
   grind
 ·rcases hv with hv | ⟨hv,hv'⟩
  ·have h1:=Rat.mul_pos hu' hv
   have e:uy*vx=0:=by grind
   grind
  ·have h1:=Rat.mul_pos hu' hv'
   have e:ux*vx=0:=by grind
   grind
theorem zV {ux uy vx vy:Rat} (hc:ux*vy - uy*vx=0) (hu:Mp ux uy) (hv:Mp (-vx) (-vy)):ux*vx+uy*vy < 0:=by
 have:=yF (ux:=ux) (uy:=uy) (vx:= -vx) (vy:= -vy) (by grind) hu hv
 grind
theorem Ai (a b:Pt):(Mp (px b - px a) (py b - py a)∧iQ a b= -1)∨(px b - px a=0∧py b - py a=0∧iQ a b=0)∨(Mp (-(px b - px a)) (-(py b - py a))∧iQ a b=1):=by
 rcases jE a b with ⟨h,e,_⟩ | ⟨h1,h2,e,_⟩ | ⟨h,e,_⟩
 ·refine .inl ⟨?_,e⟩
  rcases h with h | ⟨h,h'⟩
  ·exact .inl (by grind)
  ·exact .inr ⟨by grind,by grind⟩
 ·exact .inr (.inl ⟨by grind,by grind,e⟩)
 ·refine .inr (.inr ⟨?_,e⟩)
  rcases h with h | ⟨h,h'⟩
  ·exact .inl (by grind)
  ·exact .inr ⟨by grind,by grind⟩
def onP (a b p:Pt):Bool:=decide (bB a b p=0)&&decide (gY p a b≤0)
theorem GQ {a b p:Pt} (hc:bB a b p=0):(0≤iQ a p*iQ p b)↔gY p a b≤0:=by
 have h1:(px p - px a)*(py b - py p) - (py p - py a)*(px b - px p)=0:=by
  unfold bB at hc;grind
 have h2:gY p a b= -((px p - px a)*(px b - px p)+(py p - py a)*(py b - py p)):=by
  unfold gY;grind
 rw[h2]
 rcases Ai a p with ⟨hu,eu⟩ | ⟨hu,hu',eu⟩ | ⟨hu,eu⟩ <;> rcases Ai p b with ⟨hv,ev⟩ | ⟨hv,hv',ev⟩ | ⟨hv,ev⟩ <;> rw[eu,ev]
 ·have:=yF h1 hu hv
  exact⟨fun _=>by grind,fun _=>by decide⟩
 ·exact⟨fun _=>by grind,fun _=>by decide⟩
 ·have:=zV h1 hu hv
  exact⟨fun h=>absurd h (by decide),fun _=>by grind⟩
 ·exact⟨fun _=>by grind,fun _=>by decide⟩
 ·exact⟨fun _=>by grind,fun _=>by decide⟩
 ·exact⟨fun _=>by grind,fun _=>by decide⟩
 ·have e1: - -(px b - px p)=px b - px p:=by grind
  have e2: - -(py b - py p)=py b - py p:=by grind
  have:=zV (ux:= -(px p - px a)) (uy:= -(py p - py a)) (vx:= -(px b - px p)) (vy:= -(py b - py p)) (by grind) hu (by rw[e1,e2];exact hv)
  exact⟨fun h=>absurd h (by decide),fun _=>by grind⟩
 ·exact⟨fun _=>by grind,fun _=>by decide⟩
 ·have:=yF (ux:= -(px p - px a)) (uy:= -(py p - py a)) (vx:= -(px b - px p)) (vy:= -(py b - py p)) (by grind) hu hv
  exact⟨fun _=>by grind,fun _=>by decide⟩
theorem jF {q:Rat} :cZ q 0=0↔q=0:=by
 rcases dH q 0 with ⟨h,e,_⟩ | ⟨h,e,_⟩ | ⟨h,e,_⟩ <;> rw[e] <;> constructor <;> intro h' <;> first | exact h | grind | cases h' | rfl
theorem D3 {a b:Pt} (ha:mE a) (hb:mE b):iQ a b=0↔a=b:=by
 constructor
 ·intro h
  rcases jE a b with ⟨_,e,_⟩ | ⟨h1,h2,_,_⟩ | ⟨_,e,_⟩
  ·rw[e] at h;cases h
  ·exact ha.inj hb h1 h2
  ·rw[e] at h;cases h
 ·rintro rfl
  rcases jE a a with ⟨h,e,_⟩ | ⟨h1,h2,e,_⟩ | ⟨h,e,_⟩
  ·exfalso;grind
  ·exact e
  ·exfalso;grind
theorem Nd {a b p:Pt} (h:dX [a,b,p]=true):(decide (0≤iQ a p*iQ p b)&&(decide (cZ (bB a b p) 0=0)&&(decide (iQ a p≠0)||(decide (iQ p b≠0)||(decide (p=a)||decide (p=b))))))=onP a b p:=by
 have h:(dJ a&&(dJ b&&(dJ p&&true)))=true:=h
 simp only[Bool.and_true,Bool.and_eq_true] at h
 have ha:=e9 h.1
 have hb:=e9 h.2.1
 have hp:=e9 h.2.2
 have e3:(decide (iQ a p≠0)||(decide (iQ p b≠0)||(decide (p=a)||decide (p=b))))=true:=by
  by_cases hz:iQ a p=0
  ·rw[(D3 ha hp).1 hz];simp
  ·rw[decide_eq_true hz];rfl
 rw[e3,Bool.and_true]
 unfold onP
 by_cases hc:bB a b p=0
 ·rw[decide_eq_true (jF.2 hc),decide_eq_true hc,Bool.and_true,Bool.true_and,decide_eq_decide]
  exact GQ hc
 ·rw[decide_eq_false (fun h=>hc (jF.1 h)),decide_eq_false hc,Bool.and_false];rfl
def eok (e u v:Pt):Bool:=(!onP e v u||decide (u=e))&&(!onP e u v||decide (v=e))
def cJ (a b c d:Pt):Bool:=decide (cZ (bB a b c) 0*cZ (bB a b d) 0 < 0)&&decide (cZ (bB c d a) 0*cZ (bB c d b) 0 < 0)
def af1 (a b c d:Pt):Bool:=onP c d a||onP c d b||onP a b c||onP a b d
def w8 (a b c d:Pt):Bool:=(decide (a=c)&&eok a b d)||(decide (a=d)&&eok a b c)||(decide (b=c)&&eok b a d)||(decide (b=d)&&eok b a c)
def lL (a b c d:Pt):Int:=if w8 a b c d then 1 else if af1 a b c d||cJ a b c d then 2 else 0
theorem wF (a b p:Pt):onP a b p=onP b a p:=by
 have h1:bB a b p=0↔bB b a p=0:=by unfold bB;constructor <;> intro h <;> grind
 have h2:gY p a b=gY p b a:=by unfold gY;grind
 unfold onP
 rw[decide_eq_decide.2 h1,h2]
theorem D0 {a b p:Pt} :onP a b p=true↔bB a b p=0∧gY p a b≤0:=by
 unfold onP;rw[Bool.and_eq_true,decide_eq_true_eq,decide_eq_true_eq]
def MW (on:Bool) (p:Pt) (l:List Pt):List Pt:=if(on&&l.all fun q=>decide (q≠p))=true then l++[p] else l
def SA (a b c d:Pt):List Pt:=MW (onP a b d) d (MW (onP a b c) c (MW (onP c d b) b (MW (onP c d a) a [])))
def IC (x1 x2 x:Rt):Bool:=decide (bI x1≠bI x2)&&decide (0≤cZ (bI x1) (bI x)*cZ (bI x) (bI x2))
def Su (x1 y1 x2 y2 x:Rat):Rat:=y1+(x - x1)*(y2 - y1) / (x2 - x1)
def RD (x1 y1 x2 y2 x:Rt):Rt:=if IC x1 x2 x then ofQ (Su (bI x1) (bI y1) (bI x2) (bI y2) (bI x)) else cN
def Pn (a b:Pt) (x:Rt):Bool:=dX [a,b]&&cQ x 60
def Sj (a b:Pt) (x:Rt):Bool:=Pn a b x&&IC a.X b.X x
def Si (a b:Pt) (x:Rt):Rt:=if Pn a b x then RD a.X a.Y b.X b.Y x else cN
def Hm (p:Pt):Pt:=⟨p.Y,p.X⟩
structure SJ where
 on:Pt→Pt→Pt→Bool
 add:Bool→Pt→List Pt→List Pt
 com:Pt→Pt→Pt→Pt→List Pt
 cr:Pt→Pt→Pt→Pt→Bool
 meet:Pt→Pt→Pt→Pt→Int
 alOK:Rt→Rt→Rt→Bool
 alg:Rt→Rt→Rt→Rt→Rt→Rt
 yok:Pt→Pt→Rt→Bool
 yat:Pt→Pt→Rt→Rt
 xok:Pt→Pt→Rt→Bool
 xat:Pt→Pt→Rt→Rt
def kM:SJ where
 on:=onP
 add:=MW
 com:=SA
 cr a b c d:=af1 a b c d||cJ a b c d
 meet a b c d:=if dX [a,b,c,d] then lL a b c d else 0
 alOK:=IC
 alg:=RD
 yok:=Sj
 yat:=Si
 xok a b y:=Sj (Hm a) (Hm b) y
 xat a b y:=Si (Hm a) (Hm b) y
def aq2 (a b c p:Pt):Bool:=dX [a,b,c]&&(dJ p&&decide (cZ (bB a b c) 0=1))
def as0 (x y z:Int):Int:=if(if y < x then y else x) > z then z else(if y < x then y else x)
def aq3 (a b c p:Pt):Int:=if aq2 a b c p then as0 (cZ (bB a b p) 0) (cZ (bB b c p) 0) (cZ (bB c a p) 0) else 0
def ap8 (a b c:Pt):Bool:=dX [a,b,c]&&decide (0 < gY a b c)
def aq5 (a b c:Pt):Rt:=if dX [a,b,c] then(if 0 < gY a b c then ofQ (bB a b c / gY a b c) else ofQ 0) else cN
def z9 (a b c:Pt):Bool:=decide (gY a b c≤bB a b c)
def acJ (a b c:Pt):Bool:=dX [a,b,c]&&(decide (cZ (bB a b c) 0=1)&&(z9 a b c&&(z9 b c a&&z9 c a b)))
structure SE where
 plOK:Pt→Pt→Pt→Pt→Bool
 place:Pt→Pt→Pt→Pt→Int
 acute:Pt→Pt→Pt→Bool
 sharp:Pt→Pt→Pt→Rt
 good:Pt→Pt→Pt→Bool
 side:Pt→Pt→Pt→Pt→Pt→Rt
 wide:Pt→Pt→Pt→Bool
def aoF:SE where
 plOK:=aq2
 place:=aq3
 acute:=ap8
 sharp:=aq5
 good:=acJ
 side a b c x y:=if dX [a,b,c] then ofQ (gY x y y) else cN
 wide:=z9
theorem an0 (a b c:Pt):bB b c a=bB a b c:=by unfold bB;grind
end Go.Eng
