
import Derived.Test.YtbfknjpggfkgjaaGreatSpecR1
import Derived.Test.YtbfknjpggfkgjaaGreatSpecFA
set_option linter.all false
set_option exponentiation.threshold 3000
set_option maxRecDepth 100000
namespace Go.Eng
def fZ (s:Int) (z:Int×Int):Pt:=⟨ofQ ((z.1*s:Int) / 2),ofQ ((z.2*s:Int) / 2)⟩
structure HfP (p:Pt) (x y:Int):Prop where
 is:dJ p=true
 x:px p=(x:Rat) / 2
 y:py p=(y:Rat) / 2
theorem anP {z:Int} (h0:0≤z) (h1:z≤100):Cal (ofQ ((z:Rat) / 2)) ((z:Rat) / 2) 59:=by
 refine Cal.q ?_ (by decide)
 have:=SmQ.div (k:=59) (n:=z) (d:=2) (by show z.natAbs < 2 ^ 59;omega) (by show(2:Int).natAbs < 2 ^ 59;decide) (by decide)
 rwa [Rat.divInt_eq_div] at this
def InZ (z:Int×Int):Prop:=(0≤z.1∧z.1≤8)∧0≤z.2∧z.2≤8
theorem ao1 {x s:Int} (h0:0≤x) (h1:x≤8) (s0:1≤s) (s1:s≤5):0≤x*s∧x*s≤100:=by
 have a:=Int.mul_nonneg h0 (show 0≤s by omega)
 have b:=Int.mul_le_mul h1 s1 (by omega) (show(0:Int)≤8 by decide)
 omega
theorem z3 {s:Int} (s0:1≤s) (s1:s≤5) {z:Int×Int} (hz:InZ z):HfP (fZ s z) (z.1*s) (z.2*s):=by
 obtain⟨⟨a,b⟩,c,d⟩:=hz
 obtain⟨x0,x1⟩:=ao1 a b s0 s1
 obtain⟨y0,y1⟩:=ao1 c d s0 s1
 have cx:=anP x0 x1
 have cy:=anP y0 y1
 exact⟨fJ.2 ⟨cx.s.mono (by decide),cy.s.mono (by decide)⟩,cx.v,cy.v⟩
theorem amR (k:Int):(((2*k:Int):Rat) / 2)=(k:Rat):=by
 rw[Rat.intCast_mul];grind
theorem anZ {a b:Int} :((a:Rat) / 2 < (b:Rat) / 2)↔a < b:=by
 have:((a:Rat) < (b:Rat))↔a < b:=Rat.intCast_lt_intCast
 rw[← this]
 constructor <;> intro h <;> grind
theorem cast_eq {a b:Int} :((a:Rat) / 2=(b:Rat) / 2)↔a=b:=by
 have:((a:Rat)=(b:Rat))↔a=b:=Rat.intCast_inj
 rw[← this]
 constructor <;> intro h <;> grind
def ltZ (a b:Int×Int):Prop:=a.1 < b.1∨(a.1=b.1∧a.2 < b.2)
instance (a b:Int×Int):Decidable (ltZ a b):=inferInstanceAs (Decidable (_∨_))
theorem anT {x y s:Int} (s0:1≤s):x*s < y*s↔x < y:=Int.mul_lt_mul_right (by omega)
theorem am9 {x y s:Int} (s0:1≤s):x*s=y*s↔x=y:=Int.mul_eq_mul_right_iff (by omega)
theorem arS {s:Int} (s0:1≤s) (s1:s≤5) {a b:Int×Int} (ha:InZ a) (hb:InZ b):iQ (fZ s a) (fZ s b) < 0↔ltZ a b:=by
 have h1:=z3 s0 s1 ha
 have h2:=z3 s0 s1 hb
 rw[ac2,h1.x,h2.x,h1.y,h2.y,anZ,anZ,cast_eq,anT s0,anT s0,am9 s0]
 rfl
def ao2 (x:Int×Int):List (Int×Int)→List (Int×Int)
 | []=>[x]
 | y :: r=>if ltZ x y then x :: y :: r else if x=y then y :: r else y :: ao2 x r
def aoD:List (Int×Int)→List (Int×Int)
 | []=>[]
 | x :: r=>ao2 x (aoD r)
theorem am8 (x z:Int×Int): ∀ l,z∈ao2 x l↔z=x∨z∈l
 | []=>by simp[ao2]
 | y :: r=>by
  unfold ao2
  split
  ·simp
  ·split
   ·rename_i h;subst h;simp
   ·rw[List.mem_cons,am8 x z r,List.mem_cons]
    constructor
    ·rintro(h | h | h)
     ·exact .inr (.inl h)
     ·exact .inl h
     ·exact .inr (.inr h)
    ·rintro(h | h | h)
     ·exact .inr (.inl h)
     ·exact .inl h
     ·exact .inr (.inr h)
theorem amS (z:Int×Int): ∀ l,z∈aoD l↔z∈l
 | []=>by simp[aoD]
 | x :: r=>by rw[aoD,am8,amS z r,List.mem_cons]
theorem an7 (x:Int×Int): ∀ l:List (Int×Int),l.Pairwise ltZ→(ao2 x l).Pairwise ltZ
 | [],_=>by simp[ao2]
 | y :: r,h=>by
  obtain⟨h1,h2⟩:=List.pairwise_cons.1 h
  unfold ao2
  split
  ·rename_i hx
   refine List.pairwise_cons.2 ⟨fun z hz=>?_,h⟩
   rcases List.mem_cons.1 hz with rfl | hz
   ·exact hx
   ·have:=h1 z hz
    unfold ltZ at *;omega
  ·rename_i hx
   split
   ·exact h
   ·rename_i hne
    refine List.pairwise_cons.2 ⟨fun z hz=>?_,an7 x r h2⟩
    rcases(am8 x z r).1 hz with rfl | hz
    ·obtain⟨z1,z2⟩:=z
     obtain⟨y1,y2⟩:=y
     unfold ltZ at *
     simp only[Prod.mk.injEq] at hne hx ⊢
     omega
    ·exact h1 z hz
theorem aoE: ∀ l,(aoD l).Pairwise ltZ
 | []=>by simp[aoD]
 | x :: r=>an7 x _ (aoE r)
theorem aq9 {s:Int} (s0:1≤s) (s1:s≤5) {L:List (Int×Int)} (hL: ∀ z,z∈L→InZ z):f7.srt (L.map (fZ s))=(aoD L).map (fZ s):=by
 have hin: ∀ z,z∈aoD L→InZ z:=fun z hz=>hL z ((amS z L).1 hz)
 refine aiV (lt:=fun a b=>iQ a b < 0) aiE (fun _ _ _=>tV) (VH.1 (Vi _ _)).2 ?_ fun x=>?_
 ·rw[List.pairwise_map]
  exact(aoE L).imp_of_mem fun {a b} ha hb h=>(arS s0 s1 (hin a ha) (hin b hb)).2 h
 ·show x∈ac3 _ _↔_
  rw[aiO _ x _ (Nat.le_refl _),List.take_length,List.mem_map,List.mem_map]
  constructor
  ·rintro⟨⟨z,hz,rfl⟩,_⟩
   exact⟨z,(amS z L).2 hz,rfl⟩
  ·rintro⟨z,hz,rfl⟩
   exact⟨⟨z,(amS z L).1 hz,rfl⟩,(z3 s0 s1 (hin z hz)).is⟩
def sqR (i k s:Int):PcR:=(0,0,0,⟨bD.whole (i*s),bD.whole (i*s+s)⟩,⟨bD.whole (k*s),bD.whole (k*s+s)⟩,⟨bD.whole (k*s),bD.whole (k*s+s)⟩,())
theorem wh0 (i s:Int):bD.whole (i*s)=ofQ (((2*i)*s:Int) / 2):=by
 show ofQ _=ofQ _
 rw[show(2*i)*s=2*(i*s) from by rw[Int.mul_assoc],amR]
theorem wh1 (i s:Int):bD.whole (i*s+s)=ofQ (((2*i+2)*s:Int) / 2):=by
 show ofQ _=ofQ _
 rw[show(2*i+2)*s=2*(i*s+s) from by rw[Int.add_mul,Int.mul_add,Int.mul_assoc],amR]
theorem aqE {s:Int} (s0:1≤s) (s1:s≤5) {a b:Int×Int} (ha:InZ a) (hb:InZ b) (h:fZ s a=fZ s b):a=b:=by
 have h1:=z3 s0 s1 ha
 have h2:=z3 s0 s1 hb
 have e1:px (fZ s a)=px (fZ s b):=by rw[h]
 have e2:py (fZ s a)=py (fZ s b):=by rw[h]
 rw[h1.x,h2.x,cast_eq,am9 s0] at e1
 rw[h1.y,h2.y,cast_eq,am9 s0] at e2
 exact Prod.ext e1 e2
def aoH (i k:Int):Prop:=(0≤i∧i≤3)∧0≤k∧k≤3
theorem aoC {s:Int} (s0:1≤s) (s1:s≤5) {i k:Int} (h:aoH i k):ZX (sqR i k s).2.2.2.1 (sqR i k s).2.2.2.2.1 (sqR i k s).2.2.2.2.2.1=[fZ s (2*i,2*k),fZ s (2*i+2,2*k),fZ s (2*i+2,2*k+2),fZ s (2*i,2*k+2)]:=by
 obtain⟨⟨i0,i1⟩,k0,k1⟩:=h
 have z: ∀ x y:Int,(x=2*i∨x=2*i+2)→(y=2*k∨y=2*k+2)→InZ (x,y):=fun x y hx hy=>⟨⟨by show 0≤x;omega,by show x≤8;omega⟩,by show 0≤y;omega,by show y≤8;omega⟩
 have ne: ∀ a b:Int×Int,InZ a→InZ b→a≠b→fZ s a≠fZ s b:=fun a b ha hb hn e=>hn (aqE s0 s1 ha hb e)
 have e0:(⟨(sqR i k s).2.2.2.1.X,(sqR i k s).2.2.2.2.1.X⟩:Pt)=fZ s (2*i,2*k):=by show(⟨bD.whole (i*s),bD.whole (k*s)⟩:Pt)=_;rw[wh0,wh0];rfl
 have e1:(⟨(sqR i k s).2.2.2.1.Y,(sqR i k s).2.2.2.2.2.1.X⟩:Pt)=fZ s (2*i+2,2*k):=by show(⟨bD.whole (i*s+s),bD.whole (k*s)⟩:Pt)=_;rw[wh1,wh0];rfl
 have e2:(⟨(sqR i k s).2.2.2.1.Y,(sqR i k s).2.2.2.2.2.1.Y⟩:Pt)=fZ s (2*i+2,2*k+2):=by show(⟨bD.whole (i*s+s),bD.whole (k*s+s)⟩:Pt)=_;rw[wh1,wh1];rfl
 have e3:(⟨(sqR i k s).2.2.2.1.X,(sqR i k s).2.2.2.2.1.Y⟩:Pt)=fZ s (2*i,2*k+2):=by show(⟨bD.whole (i*s),bD.whole (k*s+s)⟩:Pt)=_;rw[wh0,wh1];rfl
 unfold ZX
 rw[e0,e1,e2,e3]
 unfold afA
 rw[if_pos (ne _ _ (z _ _ (.inl rfl) (.inl rfl)) (z _ _ (.inl rfl) (.inr rfl)) (by intro h;have:=congrArg Prod.snd h;simp only at this;omega)),
  if_pos (ne _ _ (z _ _ (.inr rfl) (.inl rfl)) (z _ _ (.inl rfl) (.inl rfl)) (by intro h;have:=congrArg Prod.fst h;simp only at this;omega)),
  if_pos (ne _ _ (z _ _ (.inr rfl) (.inr rfl)) (z _ _ (.inr rfl) (.inl rfl)) (by intro h;have:=congrArg Prod.snd h;simp only at this;omega)),
  if_pos (ne _ _ (z _ _ (.inl rfl) (.inr rfl)) (z _ _ (.inr rfl) (.inr rfl)) (by intro h;have:=congrArg Prod.fst h;simp only at this;omega))]
 rfl
theorem apN {s:Int} (s0:1≤s) (s1:s≤5) {i k:Int} (h:InZ (2*i,2*k)):AtP (fZ s (2*i,2*k)) (i*s) (k*s):=by
 have h1:=z3 s0 s1 h
 refine⟨h1.is,?_,?_⟩
 ·rw[h1.x];show(((2*i)*s:Int):Rat) / 2=_;rw[Int.mul_assoc,amR]
 ·rw[h1.y];show(((2*k)*s:Int):Rat) / 2=_;rw[Int.mul_assoc,amR]
theorem anY {g i j s:Int} (s0:1≤s) (hj:j=i∨j=i+1∨i=j+1) (h:(((g*s:Int):Rat) - ((i*s:Int):Rat))*(((g*s:Int):Rat) - ((j*s:Int):Rat))≤0):g=i∨g=j:=by
 have h1:(g*s - i*s)*(g*s - j*s)≤0:=by
  rw[← Rat.intCast_sub, ← Rat.intCast_sub, ← Rat.intCast_mul] at h
  exact Rat.intCast_le_intCast.1 (by simpa using h)
 rw[← Int.sub_mul, ← Int.sub_mul] at h1
 have hs:0 < s*s:=Int.mul_pos (by omega) (by omega)
 have h2:(g - i)*(g - j)≤0:=by
  rcases Int.lt_or_le 0 ((g - i)*(g - j)) with h3 | h3
  ·have:=Int.mul_pos h3 hs
   have e:(g - i)*s*((g - j)*s)=(g - i)*(g - j)*(s*s):=by
    rw[Int.mul_assoc,Int.mul_left_comm s, ← Int.mul_assoc]
   rw[e] at h1
   omega
  ·exact h3
 rcases Int.lt_trichotomy g i with a | a | a
 ·rcases Int.lt_trichotomy g j with b | b | b
  ·have:=Int.mul_pos_of_neg_of_neg (show g - i < 0 by omega) (show g - j < 0 by omega);omega
  ·exact .inr b
  ·omega
 ·exact .inl a
 ·rcases Int.lt_trichotomy g j with b | b | b
  ·omega
  ·exact .inr b
  ·have:=Int.mul_pos (show 0 < g - i by omega) (show 0 < g - j by omega);omega
theorem ap2 {s:Int} (s0:1≤s) (s1:s≤5) {i k j m g h:Int} (ha:InZ (2*i,2*k)) (hb:InZ (2*j,2*m)) (hq:InZ (2*g,2*h)) (hs:(j=i∧(m=k+1∨k=m+1))∨(m=k∧(j=i+1∨i=j+1))) :
  onE (fZ s (2*i,2*k)) (fZ s (2*j,2*m)) (fZ s (2*g,2*h))=false:=by
 rcases hb':onE (fZ s (2*i,2*k)) (fZ s (2*j,2*m)) (fZ s (2*g,2*h)) with _ | _
 ·rfl
 ·exfalso
  obtain⟨_,_,_,h4,h5,h6⟩:=acA hb'
  obtain⟨b1,b2⟩:=aeT h4
  have A:=apN s0 s1 ha
  have B:=apN s0 s1 hb
  have Q:=apN s0 s1 hq
  rw[A.x,B.x,Q.x] at b1
  rw[A.y,B.y,Q.y] at b2
  have c1:=anY s0 (by omega) b1
  have c2:=anY s0 (by omega) b2
  have:(g=i∧h=k)∨(g=j∧h=m):=by omega
  rcases this with ⟨rfl,rfl⟩ | ⟨rfl,rfl⟩
  ·exact h5 rfl
  ·exact h6 rfl
def aoJ (i:Int):Nat→List (Int×Int)
 | 0=>[]
 | k+1=>aoJ i k++[(i,(k:Int))]
def z4 (b:Nat):Nat→List (Int×Int)
 | 0=>[]
 | i+1=>z4 b i++aoJ (i:Int) b
theorem anQ {i:Int} {z:Int×Int} : ∀ {n:Nat},z∈aoJ i n→z.1=i∧0≤z.2∧z.2 < n
 | 0,h=>by simp[aoJ] at h
 | n+1,h=>by
  rcases List.mem_append.1 h with h | h
  ·have:=anQ h;omega
  ·have:=List.mem_singleton.1 h;subst this;exact⟨rfl,by omega,by show(n:Int) < _;omega⟩
theorem amY {b:Nat} {z:Int×Int} : ∀ {n:Nat},z∈z4 b n→(0≤z.1∧z.1 < n)∧0≤z.2∧z.2 < b
 | 0,h=>by simp[z4] at h
 | n+1,h=>by
  rcases List.mem_append.1 h with h | h
  ·have:=amY h;omega
  ·have:=anQ h;omega
theorem am5 (i:Int): ∀ n,(aoJ i n).length=n
 | 0=>rfl
 | n+1=>by unfold aoJ;rw[List.length_append,am5 i n];rfl
theorem amK (b:Nat): ∀ n,(z4 b n).length=n*b
 | 0=>by simp[z4]
 | n+1=>by unfold z4;rw[List.length_append,amK b n,am5,Nat.succ_mul]
abbrev TZ:=(Int×Int)×(Int×Int)×(Int×Int)
def tZ (z:Int×Int):List TZ:=[((2*z.1+1,2*z.2+1),(2*z.1,2*z.2),(2*z.1+2,2*z.2)),((2*z.1+1,2*z.2+1),(2*z.1+2,2*z.2),(2*z.1+2,2*z.2+2)),((2*z.1+1,2*z.2+1),(2*z.1+2,2*z.2+2),(2*z.1,2*z.2+2)),((2*z.1+1,2*z.2+1),(2*z.1,2*z.2+2),(2*z.1,2*z.2))]
def fT (s:Int) (t:TZ):T3:=(fZ s t.1,fZ s t.2.1,fZ s t.2.2,())
def pZ (t:TZ):List (Int×Int):=[t.1,t.2.1,t.2.2]
theorem as1 (f:Pt→Pt→List Pt) (c0 c1 c2 c3:Pt):acX f [c0,c1,c2,c3] 4=((((((([]++[c0])++f c0 c1)++[c1])++f c1 c2)++[c2])++f c2 c3)++[c3])++f c3 c0:=by
 have g0:pC [c0,c1,c2,c3] ((0:Nat):Int)=c0:=rfl
 have g1:pC [c0,c1,c2,c3] ((1:Nat):Int)=c1:=rfl
 have g2:pC [c0,c1,c2,c3] ((2:Nat):Int)=c2:=rfl
 have g3:pC [c0,c1,c2,c3] ((3:Nat):Int)=c3:=rfl
 have n0:pC [c0,c1,c2,c3] ((((0:Nat):Int)+1) % aY [c0,c1,c2,c3])=c1:=rfl
 have n1:pC [c0,c1,c2,c3] ((((1:Nat):Int)+1) % aY [c0,c1,c2,c3])=c2:=rfl
 have n2:pC [c0,c1,c2,c3] ((((2:Nat):Int)+1) % aY [c0,c1,c2,c3])=c3:=rfl
 have n3:pC [c0,c1,c2,c3] ((((3:Nat):Int)+1) % aY [c0,c1,c2,c3])=c0:=by
  have e:(((3:Nat):Int)+1) % aY [c0,c1,c2,c3]=0:=by simp[aY]
  rw[e];rfl
 rw[acX,acX,acX,acX,acX,g0,g1,g2,g3,n0,n1,n2,n3]
theorem arQ (m c0 c1 c2 c3:Pt):l4 m [c0,c1,c2,c3] 4=[(m,c0,c1,()),(m,c1,c2,()),(m,c2,c3,()),(m,c3,c0,())]:=by
 have g0:pC [c0,c1,c2,c3] ((0:Nat):Int)=c0:=rfl
 have g1:pC [c0,c1,c2,c3] ((1:Nat):Int)=c1:=rfl
 have g2:pC [c0,c1,c2,c3] ((2:Nat):Int)=c2:=rfl
 have g3:pC [c0,c1,c2,c3] ((3:Nat):Int)=c3:=rfl
 have n0:pC [c0,c1,c2,c3] ((((0:Nat):Int)+1) % aY [c0,c1,c2,c3])=c1:=rfl
 have n1:pC [c0,c1,c2,c3] ((((1:Nat):Int)+1) % aY [c0,c1,c2,c3])=c2:=rfl
 have n2:pC [c0,c1,c2,c3] ((((2:Nat):Int)+1) % aY [c0,c1,c2,c3])=c3:=rfl
 have n3:pC [c0,c1,c2,c3] ((((3:Nat):Int)+1) % aY [c0,c1,c2,c3])=c0:=by
  have e:(((3:Nat):Int)+1) % aY [c0,c1,c2,c3]=0:=by simp[aY]
  rw[e];rfl
 rw[l4,l4,l4,l4,l4,n0,n1,n2,n3]
 rfl
def arO (n:List Pt) (s:Int):Prop:= ∀ x,x∈n→ ∃ g h:Int,InZ (2*g,2*h)∧x=fZ s (2*g,2*h)
theorem anO {s:Int} (s0:1≤s) (s1:s≤5) {n:List Pt} (hn:Z4 n) (hc:arO n s) {i k j m:Int} (ha:InZ (2*i,2*k)) (hb:InZ (2*j,2*m)) (hs:(j=i∧(m=k+1∨k=m+1))∨(m=k∧(j=i+1∨i=j+1))) :
  aaS (fZ s (2*i,2*k)) (fZ s (2*j,2*m)) n=[]:=by
 have oa:=(z3 s0 s1 ha).is
 have ob:=(z3 s0 s1 hb).is
 unfold aaS
 split
 ·rw[ad0 hn oa ob]
  have:n.filter (onE (fZ s (2*i,2*k)) (fZ s (2*j,2*m)))=[]:=by
   rw[List.filter_eq_nil_iff]
   intro x hx
   obtain⟨g,h,hz,rfl⟩:=hc x hx
   rw[ap2 s0 s1 ha hb hz hs]
   decide
  rw[this]
  unfold adU
  split <;> rfl
 ·rfl
theorem aq8 {s:Int} (s0:1≤s) (s1:s≤5) {i k:Int} (h:aoH i k) {n:List Pt} (hn:Z4 n) (hc:arO n s) :
  f7.rim (sqR i k s).2.2.2.1 (sqR i k s).2.2.2.2.1 (sqR i k s).2.2.2.2.2.1 n=[fZ s (2*i,2*k),fZ s (2*i+2,2*k),fZ s (2*i+2,2*k+2),fZ s (2*i,2*k+2)]:=by
 show acX (fun a b=>aaS a b n) (ZX _ _ _) (ZX _ _ _).length=_
 rw[aoC s0 s1 h]
 obtain⟨⟨i0,i1⟩,k0,k1⟩:=h
 have z: ∀ x y:Int,(x=i∨x=i+1)→(y=k∨y=k+1)→InZ (2*x,2*y):=fun x y hx hy=>⟨⟨by show 0≤2*x;omega,by show 2*x≤8;omega⟩,by show 0≤2*y;omega,by show 2*y≤8;omega⟩
 have d: ∀ x:Int,2*(x+1)=2*x+2:=fun x=>by omega
 have b0:=anO s0 s1 hn hc (z i k (.inl rfl) (.inl rfl)) (z (i+1) k (.inr rfl) (.inl rfl)) (by omega)
 have b1:=anO s0 s1 hn hc (z (i+1) k (.inr rfl) (.inl rfl)) (z (i+1) (k+1) (.inr rfl) (.inr rfl)) (by omega)
 have b2:=anO s0 s1 hn hc (z (i+1) (k+1) (.inr rfl) (.inr rfl)) (z i (k+1) (.inl rfl) (.inr rfl)) (by omega)
 have b3:=anO s0 s1 hn hc (z i (k+1) (.inl rfl) (.inr rfl)) (z i k (.inl rfl) (.inl rfl)) (by omega)
 rw[d] at b0 b1 b2 b3
 rw[d] at b1 b2
 generalize fZ s (2*i,2*k)=c0 at *
 generalize fZ s (2*i+2,2*k)=c1 at *
 generalize fZ s (2*i+2,2*k+2)=c2 at *
 generalize fZ s (2*i,2*k+2)=c3 at *
 show acX _ _ 4=_
 rw[as1,b0,b1,b2,b3]
 rfl
theorem aq7 {s:Int} (s0:1≤s) (s1:s≤5) {i k:Int} (h:aoH i k):bD.mid (ZX (sqR i k s).2.2.2.1 (sqR i k s).2.2.2.2.1 (sqR i k s).2.2.2.2.2.1)=fZ s (2*i+1,2*k+1):=by
 rw[aoC s0 s1 h]
 obtain⟨⟨i0,i1⟩,k0,k1⟩:=h
 have z: ∀ x y:Int,(x=2*i∨x=2*i+2)→(y=2*k∨y=2*k+2)→InZ (x,y):=fun x y hx hy=>⟨⟨by show 0≤x;omega,by show x≤8;omega⟩,by show 0≤y;omega,by show y≤8;omega⟩
 have h0:=z3 s0 s1 (z _ _ (.inl rfl) (.inl rfl))
 have h1:=z3 s0 s1 (z _ _ (.inr rfl) (.inl rfl))
 have h2:=z3 s0 s1 (z _ _ (.inr rfl) (.inr rfl))
 have h3:=z3 s0 s1 (z _ _ (.inl rfl) (.inr rfl))
 rw[aqL (apX (by simp) (by simp) (anX fun p hp=>by
  simp only[List.mem_cons,List.not_mem_nil,or_false] at hp
  rcases hp with rfl | rfl | rfl | rfl
  ·exact h0.is
  ·exact h1.is
  ·exact h2.is
  ·exact h3.is))]
 unfold Qb
 simp only[List.map_cons,List.map_nil,Hk,List.length_cons,List.length_nil]
 rw[h0.x,h1.x,h2.x,h3.x,h0.y,h1.y,h2.y,h3.y]
 have key: ∀ x:Int,(((2*x*s:Int):Rat) / 2+((((2*x+2)*s:Int):Rat) / 2+((((2*x+2)*s:Int):Rat) / 2+(((2*x*s:Int):Rat) / 2+0)))) / 4=(((2*x+1)*s:Int):Rat) / 2:=fun x=>by
  have e1:(2*x+2)*s=2*x*s+2*s:=by rw[Int.add_mul]
  have e2:(2*x+1)*s=2*x*s+s:=by rw[Int.add_mul,Int.one_mul]
  rw[e1,e2,Rat.intCast_add,Rat.intCast_add,Rat.intCast_mul 2 s]
  grind
 have key2: ∀ x:Int,(((2*x*s:Int):Rat) / 2+(((2*x*s:Int):Rat) / 2+((((2*x+2)*s:Int):Rat) / 2+((((2*x+2)*s:Int):Rat) / 2+0)))) / 4=(((2*x+1)*s:Int):Rat) / 2:=fun x=>by
  rw[← key x];grind
 unfold fZ
 congr 1
 ·congr 1
  exact key i
 ·congr 1
  exact key2 k
theorem aq6 {s:Int} (s0:1≤s) (s1:s≤5) {z:Int×Int} (h:aoH z.1 z.2) {n:List Pt} (hn:Z4 n) (hc:arO n s) :
  aoM (sqR z.1 z.2 s).2.2.2.1 (sqR z.1 z.2 s).2.2.2.2.1 (sqR z.1 z.2 s).2.2.2.2.2.1 (f7.rim (sqR z.1 z.2 s).2.2.2.1 (sqR z.1 z.2 s).2.2.2.2.1 (sqR z.1 z.2 s).2.2.2.2.2.1 n)=(tZ z).map (fT s):=by
 rw[aq8 s0 s1 h hn hc]
 unfold aoM
 rw[if_neg (by simp),if_neg (by simp),aq7 s0 s1 h]
 show l4 _ _ 4=_
 rw[arQ]
 rfl
theorem anC (n:List Pt) (l:List PcR): ∀ k,k≤l.length→am3 n l k=(l.take k).flatMap fun x=>aoM x.2.2.2.1 x.2.2.2.2.1 x.2.2.2.2.2.1 (f7.rim x.2.2.2.1 x.2.2.2.2.1 x.2.2.2.2.2.1 n)
 | 0,_=>by simp[am3]
 | k+1,hk=>by
  rw[am3,anC n l k (by omega),List.take_succ_eq_append_getElem (by omega),List.flatMap_append]
  congr 1
  unfold aqF
  rw[List.getD_eq_getElem?_getD,List.getElem?_eq_getElem (by omega)]
  simp
theorem amZ (l:List PcR): ∀ k,k≤l.length→ai9 l k=(l.take k).flatMap fun x=>ZX x.2.2.2.1 x.2.2.2.2.1 x.2.2.2.2.2.1
 | 0,_=>by simp[ai9]
 | k+1,hk=>by
  rw[ai9,amZ l k (by omega),List.take_succ_eq_append_getElem (by omega),List.flatMap_append]
  congr 1
  rw[List.getD_eq_getElem?_getD,List.getElem?_eq_getElem (by omega)]
  simp
theorem aoZ {s:Int} (s0:1≤s) (s1:s≤5) {Z:List (Int×Int)} (hZ: ∀ z,z∈Z→aoH z.1 z.2):arO (f7.srt (dT.cors (Z.map fun z=>sqR z.1 z.2 s))) s:=fun x hx=>by
 have h1:=((aiO _ x _ (Nat.le_refl _)).1 (show x∈ac3 _ _ from hx)).1
 rw[List.take_length] at h1
 have h2:x∈ai9 (Z.map fun z=>sqR z.1 z.2 s) (Z.map fun z=>sqR z.1 z.2 s).length:=h1
 rw[amZ _ _ (Nat.le_refl _),List.take_length,List.flatMap_map] at h2
 obtain⟨z,hz,hx2⟩:=List.mem_flatMap.1 h2
 have hi:=hZ z hz
 rw[aoC s0 s1 hi] at hx2
 obtain⟨⟨i0,i1⟩,k0,k1⟩:=hi
 have w: ∀ x y:Int,(x=z.1∨x=z.1+1)→(y=z.2∨y=z.2+1)→InZ (2*x,2*y):=fun x y hx hy=>⟨⟨by show 0≤2*x;omega,by show 2*x≤8;omega⟩,by show 0≤2*y;omega,by show 2*y≤8;omega⟩
 have d: ∀ x:Int,2*x+2=2*(x+1):=fun x=>by omega
 simp only[List.mem_cons,List.not_mem_nil,or_false] at hx2
 rcases hx2 with rfl | rfl | rfl | rfl
 ·exact⟨z.1,z.2,w _ _ (.inl rfl) (.inl rfl),rfl⟩
 ·exact⟨z.1+1,z.2,w _ _ (.inr rfl) (.inl rfl),by rw[d]⟩
 ·exact⟨z.1+1,z.2+1,w _ _ (.inr rfl) (.inr rfl),by rw[d,d]⟩
 ·exact⟨z.1,z.2+1,w _ _ (.inl rfl) (.inr rfl),by rw[d]⟩
theorem am0 {α β:Type} {f g:α→List β} : ∀ {l:List α},(∀ x,x∈l→f x=g x)→l.flatMap f=l.flatMap g
 | [],_=>rfl
 | x :: l,h=>by rw[List.flatMap_cons,List.flatMap_cons,h x (List.mem_cons_self ..),am0 fun y hy=>h y (List.mem_cons_of_mem _ hy)]
theorem ao6 {s:Int} (s0:1≤s) (s1:s≤5) {Z:List (Int×Int)} (hZ: ∀ z,z∈Z→aoH z.1 z.2):dT.all (f7.srt (dT.cors (Z.map fun z=>sqR z.1 z.2 s))) (Z.map fun z=>sqR z.1 z.2 s)=(Z.flatMap tZ).map (fT s):=by
 have hc:=aoZ s0 s1 hZ
 have hn:Z4 (f7.srt (dT.cors (Z.map fun z=>sqR z.1 z.2 s))):=Vi _ _
 generalize f7.srt (dT.cors (Z.map fun z=>sqR z.1 z.2 s))=n at hc hn ⊢
 show am3 _ _ _=_
 rw[anC _ _ _ (Nat.le_refl _),List.take_length,List.flatMap_map,List.map_flatMap]
 refine am0 fun z hz=>aq6 s0 s1 (hZ z hz) hn hc
theorem ao4 (s:Int): ∀ L:List TZ,anJ (L.map (fT s))=(L.flatMap pZ).map (fZ s)
 | []=>rfl
 | t :: L=>by
  have:=ao4 s L
  unfold anJ at *
  rw[List.map_cons,List.flatMap_cons,this,List.flatMap_cons,List.map_append]
  rfl
def LZ (a b:Nat):List (Int×Int):=((z4 b a).flatMap tZ).flatMap pZ
def asN (z:Int×Int):Bool:=(decide (0≤z.1)&&decide (z.1≤8))&&(decide (0≤z.2)&&decide (z.2≤8))
theorem arP:((List.range 4).all fun a=>(List.range 4).all fun b=>(LZ (a+1) (b+1)).all asN&&decide ((aoD (LZ (a+1) (b+1))).length=(a+2)*(b+2)+(a+1)*(b+1)))=true:=by decide +kernel
theorem asP {a b:Nat} (a0:1≤a) (a1:a≤4) (b0:1≤b) (b1:b≤4):(∀ z,z∈LZ a b→InZ z)∧(aoD (LZ a b)).length=(a+1)*(b+1)+a*b:=by
 have h:=List.all_eq_true.1 (List.all_eq_true.1 arP (a - 1) (List.mem_range.2 (by omega))) (b - 1) (List.mem_range.2 (by omega))
 rw[show a - 1+1=a by omega,show b - 1+1=b by omega,show a - 1+2=a+1 by omega,show b - 1+2=b+1 by omega,Bool.and_eq_true,decide_eq_true_eq] at h
 refine⟨fun z hz=>?_,h.2⟩
 have:=List.all_eq_true.1 h.1 z hz
 unfold asN at this
 simp only[Bool.and_eq_true,decide_eq_true_eq] at this
 exact this
def amL (a b c:Int×Int):Int:=(b.1 - a.1)*(c.2 - a.2) - (b.2 - a.2)*(c.1 - a.1)
def apM (a b c:Int×Int):Int:=(b.1 - a.1)*(c.1 - a.1)+(b.2 - a.2)*(c.2 - a.2)
theorem anR {s:Int} (s0:1≤s) (s1:s≤5) {a b c:Int×Int} (ha:InZ a) (hb:InZ b) (hc:InZ c):bB (fZ s a) (fZ s b) (fZ s c)=((amL a b c:Int):Rat)*((s:Rat)*s / 4):=by
 have A:=z3 s0 s1 ha
 have B:=z3 s0 s1 hb
 have C:=z3 s0 s1 hc
 unfold bB amL
 rw[A.x,A.y,B.x,B.y,C.x,C.y]
 simp only[Rat.intCast_sub,Rat.intCast_mul]
 grind
theorem aqC {s:Int} (s0:1≤s) (s1:s≤5) {a b c:Int×Int} (ha:InZ a) (hb:InZ b) (hc:InZ c):gY (fZ s a) (fZ s b) (fZ s c)=((apM a b c:Int):Rat)*((s:Rat)*s / 4):=by
 have A:=z3 s0 s1 ha
 have B:=z3 s0 s1 hb
 have C:=z3 s0 s1 hc
 unfold gY apM
 rw[A.x,A.y,B.x,B.y,C.x,C.y]
 simp only[Rat.intCast_sub,Rat.intCast_mul,Rat.intCast_add]
 grind
theorem ao5 {s:Int} (s0:1≤s):0 < (s:Rat)*s / 4:=by
 have h:(0:Rat) < (s:Rat):=by
  have:((0:Int):Rat) < (s:Rat):=Rat.intCast_lt_intCast.2 (by omega)
  simpa using this
 have:=Rat.mul_pos h h
 grind
def aoO (a b c:Int×Int):Bool:=decide (0 < amL a b c)&&(decide (apM a b c≤amL a b c)&&(decide (apM b c a≤amL b c a)&&decide (apM c a b≤amL c a b)))
theorem anM {s:Int} (s0:1≤s) (s1:s≤5) {a b c:Int×Int} (ha:InZ a) (hb:InZ b) (hc:InZ c) (h:apM a b c≤amL a b c):z9 (fZ s a) (fZ s b) (fZ s c)=true:=by
 unfold z9
 rw[decide_eq_true_eq,anR s0 s1 ha hb hc,aqC s0 s1 ha hb hc]
 have h1:((apM a b c:Int):Rat)≤((amL a b c:Int):Rat):=Rat.intCast_le_intCast.2 h
 exact Rat.mul_le_mul_of_nonneg_right h1 (Rat.le_of_lt (ao5 s0))
theorem apT {s:Int} (s0:1≤s) (s1:s≤5) {a b c:Int×Int} (ha:InZ a) (hb:InZ b) (hc:InZ c) (h:aoO a b c=true):acJ (fZ s a) (fZ s b) (fZ s c)=true:=by
 unfold aoO at h
 simp only[Bool.and_eq_true,decide_eq_true_eq] at h
 obtain⟨h1,h2,h3,h4⟩:=h
 unfold acJ
 rw[AL (z3 s0 s1 ha).is (z3 s0 s1 hb).is (z3 s0 s1 hc).is,anM s0 s1 ha hb hc h2,anM s0 s1 hb hc ha h3,anM s0 s1 hc ha hb h4]
 have hp:0 < bB (fZ s a) (fZ s b) (fZ s c):=by
  rw[anR s0 s1 ha hb hc]
  have h5:(0:Rat) < ((amL a b c:Int):Rat):=by
   have:((0:Int):Rat) < ((amL a b c:Int):Rat):=Rat.intCast_lt_intCast.2 h1
   simpa using this
  exact Rat.mul_pos h5 (ao5 s0)
 have:cZ (bB (fZ s a) (fZ s b) (fZ s c)) 0=1:=by
  unfold cZ
  rw[if_neg (by grind),if_pos hp]
 rw[this]
 rfl
theorem am7 {a b c:Pt} (h:acJ a b c=true):acJ b c a=true:=by
 unfold acJ at *
 simp only[Bool.and_eq_true,decide_eq_true_eq] at *
 obtain⟨h1,h2,h3,h4,h5⟩:=h
 have ha:=List.all_eq_true.1 h1
 refine⟨anX fun p hp=>ha p ?_,by rw[an0];exact h2,h4,h5,h3⟩
 simp only[List.mem_cons,List.not_mem_nil,or_false] at hp ⊢
 rcases hp with h | h | h <;> simp[h]
theorem ap4:((List.range 4).all fun i:Nat=>(List.range 4).all fun k:Nat=>(tZ ((i:Int),(k:Int))).all fun t=>aoO t.1 t.2.1 t.2.2)=true:=by decide +kernel
theorem asJ {z:Int×Int} (h:aoH z.1 z.2) {t:TZ} (ht:t∈tZ z):aoO t.1 t.2.1 t.2.2=true:=by
 obtain⟨⟨i0,i1⟩,k0,k1⟩:=h
 have:=List.all_eq_true.1 (List.all_eq_true.1 ap4 z.1.toNat (List.mem_range.2 (by omega))) z.2.toNat (List.mem_range.2 (by omega))
 rw[Int.toNat_of_nonneg i0,Int.toNat_of_nonneg k0] at this
 exact List.all_eq_true.1 this t ht
theorem anW (a b c:Int):anB a b c=(a,b,c)∨anB a b c=(b,c,a)∨anB a b c=(c,a,b):=by
 unfold anB
 split
 ·exact .inl rfl
 ·split
  ·exact .inr (.inl rfl)
  ·exact .inr (.inr rfl)
structure SqF (P:List Pt) (T:List I3) (a b:Nat):Prop where
 lp:P.length=(a+1)*(b+1)+a*b
 lt:T.length=4*(a*b)
 in_: ∀ t,t∈T→((0≤t.1∧t.1 < aY P)∧(0≤t.2.1∧t.2.1 < aY P)∧0≤t.2.2∧t.2.2 < aY P)∧acJ (pC P t.1) (pC P t.2.1) (pC P t.2.2)=true
theorem apO: ∀ Z:List (Int×Int),(Z.flatMap tZ).length=4*Z.length
 | []=>rfl
 | z :: Z=>by rw[List.flatMap_cons,List.length_append,apO Z,List.length_cons];show 4+_=_;omega
def aoI (l:List PcR):List Pt:=f7.srt (dT.pts (dT.all (f7.srt (dT.cors l)) l))
def ap9 (l:List PcR):List I3:=dT.srt3 (dT.tris (aoI l) (dT.all (f7.srt (dT.cors l)) l))
theorem Vh {s:Int} (s0:1≤s) (s1:s≤5) {a b:Nat} (a0:1≤a) (a1:a≤4) (b0:1≤b) (b1:b≤4):SqF (aoI ((z4 b a).map fun z=>sqR z.1 z.2 s)) (ap9 ((z4 b a).map fun z=>sqR z.1 z.2 s)) a b:=by
 have hZ: ∀ z,z∈z4 b a→aoH z.1 z.2:=fun z hz=>by have:=amY hz;exact⟨by omega,by omega⟩
 obtain⟨hin,hlen⟩:=asP a0 a1 b0 b1
 have hall:=ao6 s0 s1 hZ
 have hP:aoI ((z4 b a).map fun z=>sqR z.1 z.2 s)=(aoD (LZ a b)).map (fZ s):=by
  unfold aoI
  rw[hall]
  show f7.srt (anJ _)=_
  rw[ao4]
  exact aq9 s0 s1 hin
 have hrise:Z4 (aoI ((z4 b a).map fun z=>sqR z.1 z.2 s)):=Vi _ _
 have hmem: ∀ z,z∈LZ a b→fZ s z∈aoI ((z4 b a).map fun z=>sqR z.1 z.2 s):=fun z hz=>by
  rw[hP];exact List.mem_map_of_mem ((amS z _).2 hz)
 unfold ap9
 rw[hall]
 generalize aoI ((z4 b a).map fun z=>sqR z.1 z.2 s)=P at hP hrise hmem ⊢
 refine⟨by rw[hP,List.length_map,hlen],?_,fun t ht=>?_⟩
 ·show(ajM cmp3 _).length=_
  unfold ajM
  rw[List.length_mergeSort]
  show(List.map _ _).length=_
  rw[List.length_map,List.length_map,apO,amK]
 ·have ht:t∈ajM cmp3 (((z4 b a).flatMap tZ).map (fT s) |>.map (ap5 P)):=ht
  unfold ajM at ht
  rw[List.mem_mergeSort,List.mem_map] at ht
  obtain⟨x,hx,rfl⟩:=ht
  obtain⟨y,hy,rfl⟩:=List.mem_map.1 hx
  obtain⟨z,hz,hyz⟩:=List.mem_flatMap.1 hy
  have m: ∀ p,p∈pZ y→p∈LZ a b:=fun p hp=>List.mem_flatMap.2 ⟨y,hy,hp⟩
  have m1:=m y.1 (by simp[pZ])
  have m2:=m y.2.1 (by simp[pZ])
  have m3:=m y.2.2 (by simp[pZ])
  obtain⟨f1,f2,f3⟩:=ahE hrise (hmem _ m1)
  obtain⟨g1,g2,g3⟩:=ahE hrise (hmem _ m2)
  obtain⟨h1,h2,h3⟩:=ahE hrise (hmem _ m3)
  have hg:=apT s0 s1 (hin _ m1) (hin _ m2) (hin _ m3) (asJ (hZ z hz) hyz)
  have e:ap5 P (fT s y)=anB (f7.find P (fZ s y.1)) (f7.find P (fZ s y.2.1)) (f7.find P (fZ s y.2.2)):=rfl
  rw[e]
  rcases anW (f7.find P (fZ s y.1)) (f7.find P (fZ s y.2.1)) (f7.find P (fZ s y.2.2)) with e | e | e <;> rw[e]
  ·exact⟨⟨⟨f1,f2⟩,⟨g1,g2⟩,h1,h2⟩,by show acJ (pC P _) (pC P _) (pC P _)=true;rw[f3,g3,h3];exact hg⟩
  ·exact⟨⟨⟨g1,g2⟩,⟨h1,h2⟩,f1,f2⟩,by show acJ (pC P _) (pC P _) (pC P _)=true;rw[f3,g3,h3];exact am7 hg⟩
  ·exact⟨⟨⟨h1,h2⟩,⟨f1,f2⟩,g1,g2⟩,by show acJ (pC P _) (pC P _) (pC P _)=true;rw[f3,g3,h3];exact am7 (am7 hg)⟩
end Go.Eng
