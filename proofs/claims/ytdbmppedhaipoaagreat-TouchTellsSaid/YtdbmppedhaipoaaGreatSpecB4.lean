
import Derived.Test.YtdbmppedhaipoaaGreatSpecB3
set_option linter.all false
set_option exponentiation.threshold 3000
set_option maxRecDepth 100000
set_option maxHeartbeats 2000000
namespace Go.Eng
theorem WQ {t D:Rat} (hD:0 < D) (h:0≤t*(1 - t)*D):0≤t∧t≤1:=by
 have h2:0≤t*(1 - t):=uY hD (by rw[Rat.mul_comm D];exact h)
 by_cases h0:t < 0
 ·exfalso
  have:=pp (u:= -t) (v:=1 - t) (by grind) (by grind)
  grind
 ·by_cases h1:1 < t
  ·exfalso
   have:=pp (u:=t) (v:=t - 1) (by grind) (by grind)
   grind
  ·exact⟨by grind,by grind⟩
theorem Zq {ax ay bx by_ qx qy:Rat} (hc:(bx - ax)*(qy - ay) - (by_ - ay)*(qx - ax)=0) (hd:(ax - qx)*(bx - qx)+(ay - qy)*(by_ - qy)≤0): ∃ t:Rat,0≤t∧t≤1∧ax+t*(bx - ax)=qx∧ay+t*(by_ - ay)=qy:=by
 by_cases ex:bx - ax=0
 ·by_cases ey:by_ - ay=0
  ·have e1:bx=ax:=by grind
   have e2:by_=ay:=by grind
   subst e1 e2
   obtain⟨h1,h2⟩:=Hj hd
   exact⟨0,by grind,by grind,by grind,by grind⟩
  ·have e1:bx=ax:=by grind
   subst e1
   have hx:qx=bx:=by
    have:(by_ - ay)*(qx - bx)=0:=by grind
    rcases Rat.mul_eq_zero.1 this with h | h
    ·exact absurd h ey
    ·grind
   subst hx
   have key:(qy - ay) / (by_ - ay)*(by_ - ay)=qy - ay:=Rat.div_mul_cancel ey
   generalize (qy - ay) / (by_ - ay)=t at *
   have hq:qy=ay+t*(by_ - ay):=by grind
   subst hq
   have hr:=WQ (t:=t) (Wa ey) (by grind)
   exact⟨t,hr.1,hr.2,by grind,rfl⟩
 ·have key:(qx - ax) / (bx - ax)*(bx - ax)=qx - ax:=Rat.div_mul_cancel ex
  generalize (qx - ax) / (bx - ax)=t at *
  have hq:qx=ax+t*(bx - ax):=by grind
  subst hq
  have hy:qy=ay+t*(by_ - ay):=by
   have:(bx - ax)*(qy - (ay+t*(by_ - ay)))=0:=by grind
   rcases Rat.mul_eq_zero.1 this with h | h
   ·exact absurd h ex
   ·grind
  subst hy
  have hr:=WQ (t:=t) (XT (x:=bx - ax) (y:=by_ - ay) (.inl ex)) (by grind)
  exact⟨t,hr.1,hr.2,rfl,rfl⟩
theorem X8 {X0 X2 Y qx qy:Rat} (hX:X0 < X2) (h1:(X2 - X0)*(qy - Y) - (Y - Y)*(qx - X0)=0) (h2:(X0 - qx)*(X2 - qx)+(Y - qy)*(Y - qy)≤0):qy=Y∧X0≤qx∧qx≤X2:=by
 have hy:qy=Y:=by
  have:(X2 - X0)*(qy - Y)=0:=by grind
  rcases Rat.mul_eq_zero.1 this with h | h
  ·grind
  ·grind
 subst hy
 refine⟨rfl,?_,?_⟩
 ·refine Rat.not_lt.1 fun hn=>?_
  have:=pp (u:=X0 - qx) (v:=X2 - qx) (by grind) (by grind)
  grind
 ·refine Rat.not_lt.1 fun hn=>?_
  have:=pp (u:=qx - X0) (v:=qx - X2) (by grind) (by grind)
  grind
theorem XB {ax ay bx by_ X0 X2 Y:Rat} (hX:X0 < X2) (h1:((bx - ax)*(Y - ay) - (by_ - ay)*(X0 - ax) < 0∧0 < (bx - ax)*(Y - ay) - (by_ - ay)*(X2 - ax))∨(0 < (bx - ax)*(Y - ay) - (by_ - ay)*(X0 - ax)∧(bx - ax)*(Y - ay) - (by_ - ay)*(X2 - ax) < 0)) (h2:(ay < Y∧Y < by_)∨(Y < ay∧by_ < Y)) :
  ∃ t:Rat,0≤t∧t≤1∧ay+t*(by_ - ay)=Y∧X0≤ax+t*(bx - ax)∧ax+t*(bx - ax)≤X2:=by
 have ey:by_ - ay≠0:=by
  intro h
  rcases h2 with h2 | h2 <;> grind
 have key:(Y - ay) / (by_ - ay)*(by_ - ay)=Y - ay:=Rat.div_mul_cancel ey
 generalize (Y - ay) / (by_ - ay)=t at *
 have hq:Y=ay+t*(by_ - ay):=by grind
 subst hq
 have E1:(bx - ax)*(ay+t*(by_ - ay) - ay) - (by_ - ay)*(X0 - ax)=(by_ - ay)*(ax+t*(bx - ax) - X0):=by grind
 have E2:(bx - ax)*(ay+t*(by_ - ay) - ay) - (by_ - ay)*(X2 - ax)=(by_ - ay)*(ax+t*(bx - ax) - X2):=by grind
 rw[E1,E2] at h1
 clear E1 E2 key
 obtain⟨qx,hqx⟩:=exE (ax+t*(bx - ax))
 rw[← hqx] at h1
 rcases h2 with ⟨g1,g2⟩ | ⟨g1,g2⟩
 ·have hd:0 < by_ - ay:=by grind
  have t0:0 < t:=US hd (by grind)
  have t1:0 < 1 - t:=US hd (by grind)
  refine⟨t,by grind,by grind,rfl,?_,?_⟩
  ·rw[← hqx];refine Rat.not_lt.1 fun hn=>?_
   have a1:=pp hd (show 0 < X0 - qx by grind)
   have a2:=pp hd (show 0 < X2 - qx by grind)
   grind
  ·rw[← hqx];refine Rat.not_lt.1 fun hn=>?_
   have a1:=pp hd (show 0 < qx - X0 by grind)
   have a2:=pp hd (show 0 < qx - X2 by grind)
   grind
 ·have hd:0 < ay - by_:=by grind
  have t0:0 < t:=US hd (by grind)
  have t1:0 < 1 - t:=US hd (by grind)
  refine⟨t,by grind,by grind,rfl,?_,?_⟩
  ·rw[← hqx];refine Rat.not_lt.1 fun hn=>?_
   have a1:=pp hd (show 0 < X0 - qx by grind)
   have a2:=pp hd (show 0 < X2 - qx by grind)
   grind
  ·rw[← hqx];refine Rat.not_lt.1 fun hn=>?_
   have a1:=pp hd (show 0 < qx - X0 by grind)
   have a2:=pp hd (show 0 < qx - X2 by grind)
   grind
def WV (ax ay bx by_ X0 X2 Y:Rat):Prop:= ∃ t:Rat,0≤t∧t≤1∧ay+t*(by_ - ay)=Y∧X0≤ax+t*(bx - ax)∧ax+t*(bx - ax)≤X2
theorem V5 {a b c d:Pt} :anyP a b c d=true↔onP c d a=true∨onP c d b=true∨onP a b c=true∨onP a b d=true:=by
 unfold anyP
 rw[Bool.or_eq_true,Bool.or_eq_true,Bool.or_eq_true]
 constructor
 ·rintro(((h | h) | h) | h)
  ·exact .inl h
  ·exact .inr (.inl h)
  ·exact .inr (.inr (.inl h))
  ·exact .inr (.inr (.inr h))
 ·rintro(h | h | h | h)
  ·exact .inl (.inl (.inl h))
  ·exact .inl (.inl (.inr h))
  ·exact .inl (.inr h)
  ·exact .inr h
theorem UY {a b c d:Pt} :cJ a b c d=true↔((bB a b c < 0∧0 < bB a b d)∨(0 < bB a b c∧bB a b d < 0))∧((bB c d a < 0∧0 < bB c d b)∨(0 < bB c d a∧bB c d b < 0)):=by
 unfold cJ
 rw[Bool.and_eq_true,WD,WD]
theorem WA {a b c d:Pt} {X0 X2 Y:Rat} (hX:X0 < X2) (c1:px c=X0) (c2:py c=Y) (d1:px d=X2) (d2:py d=Y):0 < lL a b c d↔WV (px a) (py a) (px b) (py b) X0 X2 Y:=by
 rw[Vp,V5,UY,D0,D0,D0,D0]
 unfold bB gY WV
 rw[c1,c2,d1,d2]
 generalize px a=ax
 generalize py a=ay
 generalize px b=bx
 generalize py b=by_
 constructor
 ·rintro((⟨h1,h2⟩ | ⟨h1,h2⟩ | ⟨h1,h2⟩ | ⟨h1,h2⟩) | ⟨h1,h2⟩)
  ·obtain⟨g1,g2,g3⟩:=X8 hX h1 h2
   exact⟨0,by grind,by grind,by grind,by grind,by grind⟩
  ·obtain⟨g1,g2,g3⟩:=X8 hX h1 h2
   exact⟨1,by grind,by grind,by grind,by grind,by grind⟩
  ·obtain⟨t,t0,t1,e1,e2⟩:=Zq h1 h2
   exact⟨t,t0,t1,e2,by grind,by grind⟩
  ·obtain⟨t,t0,t1,e1,e2⟩:=Zq h1 h2
   exact⟨t,t0,t1,e2,by grind,by grind⟩
  ·refine XB hX h1 ?_
   have e1:(X2 - X0)*(ay - Y) - (Y - Y)*(ax - X0)=(X2 - X0)*(ay - Y):=by grind
   have e2:(X2 - X0)*(by_ - Y) - (Y - Y)*(bx - X0)=(X2 - X0)*(by_ - Y):=by grind
   rw[e1,e2] at h2
   have hd:0 < X2 - X0:=by grind
   rcases h2 with ⟨g1,g2⟩ | ⟨g1,g2⟩
   ·refine .inl ⟨?_,by have:=US hd g2;grind⟩
    have:0 < (X2 - X0)*(Y - ay):=by grind
    have:=US hd this
    grind
   ·refine .inr ⟨by have:=US hd g1;grind,?_⟩
    have:0 < (X2 - X0)*(Y - by_):=by grind
    have:=US hd this
    grind
 ·rintro⟨t,t0,t1,hy,q0,q1⟩
  rcases XJ hX t0 t1 hy q0 q1 with h | h
  ·refine .inl ?_
   unfold X7 at h
   rcases h with ⟨h1,h2,h3⟩ | ⟨h1,h2,h3⟩ | h | h
   ·refine .inl ⟨by grind,?_⟩
    have g:=nn (u:=ax - X0) (v:=X2 - ax) (by grind) (by grind)
    clear t0 t1 hy q0 q1
    subst h1
    grind
   ·refine .inr (.inl ⟨by grind,?_⟩)
    have g:=nn (u:=bx - X0) (v:=X2 - bx) (by grind) (by grind)
    clear t0 t1 hy q0 q1
    subst h1
    grind
   ·exact .inr (.inr (.inl h))
   ·exact .inr (.inr (.inr h))
  ·refine .inr ?_
   unfold Vx at h
   refine⟨h.1,?_⟩
   have hd:0 < X2 - X0:=by grind
   have h2:=h.2
   clear h t0 t1 hy q0 q1
   rcases h2 with ⟨g1,g2⟩ | ⟨g1,g2⟩
   ·have p1:=pp hd (show 0 < Y - ay by grind)
    have p2:=pp hd (show 0 < by_ - Y by grind)
    exact .inl ⟨by grind,by grind⟩
   ·have p1:=pp hd (show 0 < ay - Y by grind)
    have p2:=pp hd (show 0 < Y - by_ by grind)
    exact .inr ⟨by grind,by grind⟩
theorem WI (p:Pt):px (Hm p)=py p:=rfl
theorem WJ (p:Pt):py (Hm p)=px p:=rfl
theorem VR (a b p:Pt):onP (Hm a) (Hm b) (Hm p)=onP a b p:=by
 rw[Bool.eq_iff_iff,D0,D0]
 unfold bB gY
 simp only[WI,WJ]
 constructor <;> rintro⟨h1,h2⟩ <;> exact⟨by grind,by grind⟩
theorem WB {a b c d:Pt} :0 < lL (Hm a) (Hm b) (Hm c) (Hm d)↔0 < lL a b c d:=by
 rw[Vp,Vp,V5,V5,VR,VR,VR,VR,UY,UY]
 have e: ∀ a b p:Pt,bB (Hm a) (Hm b) (Hm p)= -bB a b p:=fun a b p=>by unfold bB;simp only[WI,WJ];grind
 rw[e,e,e,e]
 generalize bB a b c=u1
 generalize bB a b d=u2
 generalize bB c d a=u3
 generalize bB c d b=u4
 constructor
 ·rintro(h | ⟨h1,h2⟩)
  ·exact .inl h
  ·exact .inr ⟨by grind,by grind⟩
 ·rintro(h | ⟨h1,h2⟩)
  ·exact .inl h
  ·exact .inr ⟨by grind,by grind⟩
theorem Xw {a b c d:Pt} {Y0 Y2 X:Rat} (hY:Y0 < Y2) (c1:px c=X) (c2:py c=Y0) (d1:px d=X) (d2:py d=Y2):0 < lL a b c d↔WV (py a) (px a) (py b) (px b) Y0 Y2 X:=by
 rw[← WB]
 exact WA (a:=Hm a) (b:=Hm b) (c:=Hm c) (d:=Hm d) hY c2 c1 d2 d1
end Go.Eng
