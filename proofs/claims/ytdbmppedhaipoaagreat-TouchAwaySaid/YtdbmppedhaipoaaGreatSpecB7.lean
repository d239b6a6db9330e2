
import Derived.Test.YtdbmppedhaipoaaGreatSpecB6
set_option linter.all false
set_option exponentiation.threshold 3000
set_option maxRecDepth 100000
set_option maxHeartbeats 2000000
namespace Go.Eng
structure FrI (x y s h:Int):Prop where
 c0:Vq x y h=true
 c1:Vq (x+h) y h=true
 c2:Vq x (y+h) h=true
 c3:Vq (x+h) (y+h) h=true
 e:s=h+h
 h0:1≤h
 h1:h≤32
 x0:0≤x
 y0:0≤y
 x1:x+s≤64
 y1:y+s≤64
theorem ZA {x y s h:Int} (hc:Vq x y s=true) (h1:s≠1) (hh:h=s / 2):FrI x y s h:=by
 have hd:=hc
 unfold Vq at hc
 simp only[Bool.and_eq_true,Bool.or_eq_true,decide_eq_true_eq] at hc
 obtain⟨⟨⟨⟨⟨⟨g1,g2⟩,g3⟩,g4⟩,g5⟩,g6⟩,g7⟩:=hc
 have mk: ∀ u v h:Int,(h=1∨h=2∨h=4∨h=8∨h=16∨h=32)→0≤u→0≤v→u≤64 - h→v≤64 - h→u % h=0→v % h=0→Vq u v h=true:=fun u v h p q1 q2 q3 q4 q5 q6=>by
  unfold Vq
  simp only[Bool.and_eq_true,Bool.or_eq_true,decide_eq_true_eq]
  exact⟨⟨⟨⟨⟨⟨by omega,q1⟩,q2⟩,q3⟩,q4⟩,q5⟩,q6⟩
 have key:(h=1∨h=2∨h=4∨h=8∨h=16∨h=32)∧s=h+h∧x % h=0∧y % h=0∧(x+h) % h=0∧(y+h) % h=0:=by
  rcases g1 with (((((e | e) | e) | e) | e) | e) | e
  ·exact absurd e h1
  ·rw[e] at g4 g5 g6 g7 hh ⊢
   have hv:h=1:=by omega
   rw[hv]
   exact⟨by omega,by omega,by omega,by omega,by omega,by omega⟩
  ·rw[e] at g4 g5 g6 g7 hh ⊢
   have hv:h=2:=by omega
   rw[hv]
   exact⟨by omega,by omega,by omega,by omega,by omega,by omega⟩
  ·rw[e] at g4 g5 g6 g7 hh ⊢
   have hv:h=4:=by omega
   rw[hv]
   exact⟨by omega,by omega,by omega,by omega,by omega,by omega⟩
  ·rw[e] at g4 g5 g6 g7 hh ⊢
   have hv:h=8:=by omega
   rw[hv]
   exact⟨by omega,by omega,by omega,by omega,by omega,by omega⟩
  ·rw[e] at g4 g5 g6 g7 hh ⊢
   have hv:h=16:=by omega
   rw[hv]
   exact⟨by omega,by omega,by omega,by omega,by omega,by omega⟩
  ·rw[e] at g4 g5 g6 g7 hh ⊢
   have hv:h=32:=by omega
   rw[hv]
   exact⟨by omega,by omega,by omega,by omega,by omega,by omega⟩
 obtain⟨k1,k2,k3,k4,k5,k6⟩:=key
 exact⟨mk _ _ _ k1 g2 g3 (by omega) (by omega) k3 k4,mk _ _ _ k1 (by omega) g3 (by omega) (by omega) k5 k4,mk _ _ _ k1 g2 (by omega) (by omega) (by omega) k3 k6,mk _ _ _ k1 (by omega) (by omega) (by omega) (by omega) k5 k6,k2,by omega,by omega,g2,g3,by omega,by omega⟩
theorem Xa {x y s h:Int} {a b:Pt} (hc:Vq x y s=true) (f:FrI x y s h) (ha:dJ a=true) (hb:dJ b=true):U3 x y s a b=(((U3 x y h a b||U3 (x+h) y h a b)||U3 x (y+h) h a b)||U3 (x+h) (y+h) h a b):=by
 rw[Bool.eq_iff_iff,Bool.or_eq_true,Bool.or_eq_true,Bool.or_eq_true,UX,UX,UX,UX,UX]
 simp only[hc,f.c0,f.c1,f.c2,f.c3,ha,hb,true_and,and_self]
 unfold YF Hit VD
 have es:x+s=x+h+h:=by have:=f.e;omega
 have et:y+s=y+h+h:=by have:=f.e;omega
 have h0:=f.h0
 rw[es,et]
 have l1:(x:Rat)≤((x+h:Int):Rat):=Rat.intCast_le_intCast.2 (by omega)
 have l2:((x+h:Int):Rat)≤((x+h+h:Int):Rat):=Rat.intCast_le_intCast.2 (by omega)
 have l3:(y:Rat)≤((y+h:Int):Rat):=Rat.intCast_le_intCast.2 (by omega)
 have l4:((y+h:Int):Rat)≤((y+h+h:Int):Rat):=Rat.intCast_le_intCast.2 (by omega)
 generalize (x:Rat)=X0 at *
 generalize ((x+h:Int):Rat)=X1 at *
 generalize ((x+h+h:Int):Rat)=X2 at *
 generalize (y:Rat)=Y0 at *
 generalize ((y+h:Int):Rat)=Y1 at *
 generalize ((y+h+h:Int):Rat)=Y2 at *
 clear f es et h0 ha hb hc
 constructor
 ·rintro⟨t,t0,t1,⟨h1,h2⟩,h3,h4⟩
  by_cases cx:px a+t*(px b - px a)≤X1 <;> by_cases cy:py a+t*(py b - py a)≤Y1
  ·exact .inl (.inl (.inl ⟨t,t0,t1,⟨h1,cx⟩,h3,cy⟩))
  ·exact .inl (.inr ⟨t,t0,t1,⟨h1,cx⟩,by grind,h4⟩)
  ·exact .inl (.inl (.inr ⟨t,t0,t1,⟨by grind,h2⟩,h3,cy⟩))
  ·exact .inr ⟨t,t0,t1,⟨by grind,h2⟩,by grind,h4⟩
 ·rintro(((⟨t,t0,t1,⟨h1,h2⟩,h3,h4⟩ | ⟨t,t0,t1,⟨h1,h2⟩,h3,h4⟩) | ⟨t,t0,t1,⟨h1,h2⟩,h3,h4⟩) | ⟨t,t0,t1,⟨h1,h2⟩,h3,h4⟩) <;> exact⟨t,t0,t1,⟨by grind,by grind⟩,by grind,by grind⟩
theorem WM {x y s ax ay dx dy m j:Int} {a b:Pt} (hc:Vq x y s=true) (ha:AtP a ax ay) (hb:AtP b (ax+m*dx) (ay+m*dy)) (hm:0 < m) (j0:0≤j) (j1:j≤m)
  (h1:x≤ax+j*dx) (h2:ax+j*dx≤x+s) (h3:y≤ay+j*dy) (h4:ay+j*dy≤y+s):U3 x y s a b=true:=by
 refine UX.2 ⟨hc,⟨ha.is,hb.is⟩,?_⟩
 unfold YF Hit VD
 rw[ha.x,ha.y,hb.x,hb.y]
 have hmq:(0:Rat) < (m:Rat):=by have:=Rat.intCast_lt_intCast.2 hm;simpa using this
 have hjq:(0:Rat)≤(j:Rat):=by have:=Rat.intCast_le_intCast.2 j0;simpa using this
 have hjm:(j:Rat)≤(m:Rat):=Rat.intCast_le_intCast.2 j1
 have key:(j:Rat) / (m:Rat)*(m:Rat)=(j:Rat):=U1 hmq
 refine⟨(j:Rat) / (m:Rat),Wi hjq hmq,Wh hjm hmq,?_⟩
 have e: ∀ p d:Int,(p:Rat)+(j:Rat) / (m:Rat)*(((p+m*d:Int):Rat) - (p:Rat))=((p+j*d:Int):Rat):=fun p d=>by
  rw[Rat.intCast_add,Rat.intCast_mul,Rat.intCast_add,Rat.intCast_mul]
  generalize (j:Rat) / (m:Rat)=t at *
  have:(p:Rat)+t*((p:Rat)+(m:Rat)*(d:Rat) - (p:Rat))=(p:Rat)+(t*(m:Rat))*(d:Rat):=by grind
  rw[this,key]
 rw[e,e]
 exact⟨⟨Rat.intCast_le_intCast.2 h1,Rat.intCast_le_intCast.2 h2⟩,Rat.intCast_le_intCast.2 h3,Rat.intCast_le_intCast.2 h4⟩
theorem WL {x y s lo hi r:Int} {a b:Pt} (hc:Vq x y s=true) (ha:AtP a lo r) (hb:AtP b hi r) (hl:lo≤hi):U3 x y s a b=(((decide (r ≥ y)&&decide (r≤y+s))&&decide (hi ≥ x))&&decide (lo≤x+s)):=by
 have c:=Vb hc
 rw[show U3 x y s a b=metI x y s lo r hi r from by rw[VN c ha hb];unfold U3;rw[hc,Po ha.is hb.is];rfl]
 obtain⟨s0,s1,x0,y0,x1,y1⟩:=c
 unfold metI crJ
 have mx: ∀ p q:Int,aA.mx p q=if p < q then q else p:=fun p q=>rfl
 have mn: ∀ p q:Int,aA.mn p q=if q < p then q else p:=fun p q=>rfl
 rw[mx,mx,mn,mn,Bool.eq_iff_iff]
 simp only[Bool.and_eq_true,Bool.or_eq_true,Bool.not_eq_true', ← Bool.not_eq_true,decide_eq_true_eq,Int.sub_self,Int.zero_mul,Int.sub_zero]
 have d:0≤hi - lo:=by omega
 constructor
 ·rintro⟨h1,h2,h3⟩
  refine⟨⟨⟨?_,?_⟩,?_⟩,?_⟩ <;> refine Decidable.byContradiction fun g=>h1 ?_ <;> (split <;> split <;> omega)
 ·rintro⟨⟨⟨h1,h2⟩,h3⟩,h4⟩
  have p1:=Int.mul_nonneg d (show 0≤y+s - r by omega)
  have p2:=Int.mul_nonneg d (show 0≤r - y by omega)
  have p3:(hi - lo)*(y - r)= -((hi - lo)*(r - y)):=by rw[← Int.mul_neg];congr 1;omega
  refine⟨?_, .inr (.inr (.inl p1)), .inl (by omega)⟩
  (split <;> split <;> omega)
theorem Wb {x y s lo hi r:Int} {a b:Pt} (hc:Vq x y s=true) (ha:AtP a r lo) (hb:AtP b r hi) (hl:lo≤hi):U3 x y s a b=(((decide (r ≥ x)&&decide (r≤x+s))&&decide (hi ≥ y))&&decide (lo≤y+s)):=by
 have c:=Vb hc
 rw[show U3 x y s a b=metI x y s r lo r hi from by rw[VN c ha hb];unfold U3;rw[hc,Po ha.is hb.is];rfl]
 obtain⟨s0,s1,x0,y0,x1,y1⟩:=c
 unfold metI crJ
 have mx: ∀ p q:Int,aA.mx p q=if p < q then q else p:=fun p q=>rfl
 have mn: ∀ p q:Int,aA.mn p q=if q < p then q else p:=fun p q=>rfl
 rw[mx,mx,mn,mn,Bool.eq_iff_iff]
 simp only[Bool.and_eq_true,Bool.or_eq_true,Bool.not_eq_true', ← Bool.not_eq_true,decide_eq_true_eq,Int.sub_self,Int.zero_mul,Int.zero_sub]
 have d:0≤hi - lo:=by omega
 constructor
 ·rintro⟨h1,h2,h3⟩
  refine⟨⟨⟨?_,?_⟩,?_⟩,?_⟩ <;> refine Decidable.byContradiction fun g=>h1 ?_ <;> (split <;> split <;> omega)
 ·rintro⟨⟨⟨h1,h2⟩,h3⟩,h4⟩
  have p1:=Int.mul_nonneg d (show 0≤x+s - r by omega)
  have p2:=Int.mul_nonneg d (show 0≤r - x by omega)
  have p3:(hi - lo)*(x - r)= -((hi - lo)*(r - x)):=by rw[← Int.mul_neg];congr 1;omega
  refine⟨?_, .inl (by omega), .inr (.inl (by omega))⟩
  (split <;> split <;> omega)
end Go.Eng
