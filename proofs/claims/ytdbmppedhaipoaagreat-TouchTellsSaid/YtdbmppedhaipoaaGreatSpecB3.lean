
import Derived.Test.YtdbmppedhaipoaaGreatSpecB2
import Derived.Test.YtdbmppedhaipoaaGreatSpecLg
set_option linter.all false
set_option exponentiation.threshold 3000
set_option maxRecDepth 100000
set_option maxHeartbeats 2000000
namespace Go.Eng
theorem Vp {a b c d:Pt} :0 < lL a b c d↔anyP a b c d=true∨cJ a b c d=true:=by
 unfold lL
 cases h1:w8 a b c d
 ·cases h2:anyP a b c d <;> cases h3:cJ a b c d <;> simp
 ·cases h2:anyP a b c d
  ·rw[XP h2] at h1;cases h1
  ·simp
theorem Wk {a b c d:Pt} :0 < lL a b d c↔0 < lL a b c d:=by
 rw[Vp,Vp]
 have e1:anyP a b d c=anyP a b c d:=by
  unfold anyP
  rw[wF d c a,wF d c b]
  cases onP c d a <;> cases onP c d b <;> cases onP a b c <;> cases onP a b d <;> rfl
 have e2:cJ a b d c=cJ a b c d:=by
  unfold cJ
  rw[sI c d a,sI c d b,Tt,Tt,Int.neg_mul_neg,Int.mul_comm (cZ (bB a b d) 0)]
 rw[e1,e2]
theorem WD (p q:Rat):decide (cZ p 0*cZ q 0 < 0)=true↔(p < 0∧0 < q)∨(0 < p∧q < 0):=by
 rw[decide_eq_true_eq]
 rcases dH p 0 with ⟨h,e,_⟩ | ⟨h,e,_⟩ | ⟨h,e,_⟩ <;> rcases dH q 0 with ⟨g,f,_⟩ | ⟨g,f,_⟩ | ⟨g,f,_⟩ <;> rw[e,f] <;> constructor <;> intro hh <;> first | (exact absurd hh (by decide)) | decide | grind
theorem nn {u v:Rat} (hu:0≤u) (hv:0≤v):0≤u*v:=Rat.mul_nonneg hu hv
theorem pp {u v:Rat} (hu:0 < u) (hv:0 < v):0 < u*v:=Rat.mul_pos hu hv
theorem Yu (z:Rat):0≤z*z:=by
 by_cases hz:0≤z
 ·exact nn hz hz
 ·have:=nn (u:= -z) (v:= -z) (by grind) (by grind)
  grind
def X7 (ax ay bx by_ X0 X2 Y:Rat):Prop:=(ay=Y∧X0≤ax∧ax≤X2)∨(by_=Y∧X0≤bx∧bx≤X2)∨
 ((bx - ax)*(Y - ay) - (by_ - ay)*(X0 - ax)=0∧(ax - X0)*(bx - X0)+(ay - Y)*(by_ - Y)≤0)∨((bx - ax)*(Y - ay) - (by_ - ay)*(X2 - ax)=0∧(ax - X2)*(bx - X2)+(ay - Y)*(by_ - Y)≤0)
def Vx (ax ay bx by_ X0 X2 Y:Rat):Prop:=
 (((bx - ax)*(Y - ay) - (by_ - ay)*(X0 - ax) < 0∧0 < (bx - ax)*(Y - ay) - (by_ - ay)*(X2 - ax))∨(0 < (bx - ax)*(Y - ay) - (by_ - ay)*(X0 - ax)∧(bx - ax)*(Y - ay) - (by_ - ay)*(X2 - ax) < 0))∧
 ((ay < Y∧Y < by_)∨(Y < ay∧by_ < Y))
theorem XI {ax bx X0 X2 Y t:Rat} (hX:X0 < X2) (t0:0≤t) (t1:t≤1) (q0:X0≤ax+t*(bx - ax)) (q1:ax+t*(bx - ax)≤X2):X7 ax Y bx Y X0 X2 Y:=by
 by_cases g1:X0≤ax∧ax≤X2
 ·exact .inl ⟨rfl,g1⟩
 by_cases g2:X0≤bx∧bx≤X2
 ·exact .inr (.inl ⟨rfl,g2⟩)
 have k1: ¬ (ax < X0∧bx < X0):=fun h=>by
  by_cases ht:t=0
  ·subst ht;grind
  ·have h1:=pp (u:=t) (v:=X0 - bx) (by grind) (by grind)
   have h2:=nn (u:=1 - t) (v:=X0 - ax) (by grind) (by grind)
   grind
 have k2: ¬ (X2 < ax∧X2 < bx):=fun h=>by
  by_cases ht:t=0
  ·subst ht;grind
  ·have h1:=pp (u:=t) (v:=bx - X2) (by grind) (by grind)
   have h2:=nn (u:=1 - t) (v:=ax - X2) (by grind) (by grind)
   grind
 refine .inr (.inr (.inl ⟨by grind,?_⟩))
 by_cases g:ax < X0
 ·have g3:X0≤bx:=by grind
  have:=nn (u:=X0 - ax) (v:=bx - X0) (by grind) (by grind)
  grind
 ·have g3:bx≤X0:=by grind
  have:=nn (u:=ax - X0) (v:=X0 - bx) (by grind) (by grind)
  grind
theorem Wz {ax ay bx by_ X0 X2 Y t:Rat} (hX:X0 < X2) (t0:0≤t) (t1:t≤1) (hy:ay+t*(by_ - ay)=Y) (q0:X0≤ax+t*(bx - ax)) (q1:ax+t*(bx - ax)≤X2) (h:ay=Y∨by_=Y):X7 ax ay bx by_ X0 X2 Y:=by
 by_cases e1:ay=Y
 ·by_cases e2:by_=Y
  ·subst e1 e2
   exact XI hX t0 t1 q0 q1
  ·have ht:t=0:=by
    have h:t*(by_ - Y)=0:=by grind
    rcases Rat.mul_eq_zero.1 h with h | h
    ·exact h
    ·exfalso;exact e2 (by grind)
   subst ht
   exact .inl ⟨e1,by grind,by grind⟩
 ·have e2:by_=Y:=h.resolve_left e1
  have ht:t=1:=by
   have h:(1 - t)*(ay - Y)=0:=by grind
   rcases Rat.mul_eq_zero.1 h with h | h
   ·grind
   ·exfalso;exact e1 (by grind)
  subst ht
  exact .inr (.inl ⟨e2,by grind,by grind⟩)
theorem Xe {ax ay bx by_ X0 X2 Y t:Rat} (t0:0≤t) (t1:t≤1) (hy:ay+t*(by_ - ay)=Y) (h:ax+t*(bx - ax)=X0∨ax+t*(bx - ax)=X2):X7 ax ay bx by_ X0 X2 Y:=by
 have sq:0≤t*(1 - t)*((bx - ax)*(bx - ax)+(by_ - ay)*(by_ - ay)):=by
  have s1:=Yu (bx - ax)
  have s2:=Yu (by_ - ay)
  exact nn (nn t0 (by grind)) (by grind)
 rcases h with h | h
 ·refine .inr (.inr (.inl ⟨?_,?_⟩))
  ·subst hy h;grind
  ·subst hy h;grind
 ·refine .inr (.inr (.inr ⟨?_,?_⟩))
  ·subst hy h;grind
  ·subst hy h;grind
theorem Wy {ax ay bx by_ X0 X2 Y t:Rat} (t0:0≤t) (t1:t≤1) (hy:ay+t*(by_ - ay)=Y) (q0:X0 < ax+t*(bx - ax)) (q1:ax+t*(bx - ax) < X2) (h1:ay≠Y) (h2:by_≠Y):Vx ax ay bx by_ X0 X2 Y:=by
 have tp:0 < t:=by
  by_cases h:t=0
  ·subst h;exfalso;exact h1 (by grind)
  ·grind
 have tl:t < 1:=by
  by_cases h:t=1
  ·subst h;exfalso;exact h2 (by grind)
  ·grind
 have E1:(bx - ax)*(Y - ay) - (by_ - ay)*(X0 - ax)=(by_ - ay)*(ax+t*(bx - ax) - X0):=by subst hy;grind
 have E2:(bx - ax)*(Y - ay) - (by_ - ay)*(X2 - ax)= -((by_ - ay)*(X2 - (ax+t*(bx - ax)))):=by subst hy;grind
 unfold Vx
 rw[E1,E2]
 by_cases h:0 < by_ - ay
 ·have k1:=pp tp h
  have k2:=pp (u:=1 - t) (v:=by_ - ay) (by grind) h
  have k3:=pp (u:=by_ - ay) (v:=ax+t*(bx - ax) - X0) h (by grind)
  have k4:=pp (u:=by_ - ay) (v:=X2 - (ax+t*(bx - ax))) h (by grind)
  exact⟨.inr ⟨k3,by grind⟩, .inl ⟨by grind,by grind⟩⟩
 ·have h':0 < ay - by_:=by
   by_cases h0:ay=by_
   ·subst h0;exfalso;exact h1 (by grind)
   ·grind
  have k1:=pp tp h'
  have k2:=pp (u:=1 - t) (v:=ay - by_) (by grind) h'
  have k3:=pp (u:=ay - by_) (v:=ax+t*(bx - ax) - X0) h' (by grind)
  have k4:=pp (u:=ay - by_) (v:=X2 - (ax+t*(bx - ax))) h' (by grind)
  exact⟨.inl ⟨by grind,by grind⟩, .inr ⟨by grind,by grind⟩⟩
theorem XJ {ax ay bx by_ X0 X2 Y t:Rat} (hX:X0 < X2) (t0:0≤t) (t1:t≤1) (hy:ay+t*(by_ - ay)=Y) (q0:X0≤ax+t*(bx - ax)) (q1:ax+t*(bx - ax)≤X2):X7 ax ay bx by_ X0 X2 Y∨Vx ax ay bx by_ X0 X2 Y:=by
 by_cases e1:ay=Y
 ·exact .inl (Wz hX t0 t1 hy q0 q1 (.inl e1))
 by_cases e2:by_=Y
 ·exact .inl (Wz hX t0 t1 hy q0 q1 (.inr e2))
 by_cases g0:ax+t*(bx - ax)=X0
 ·exact .inl (Xe t0 t1 hy (.inl g0))
 by_cases g1:ax+t*(bx - ax)=X2
 ·exact .inl (Xe t0 t1 hy (.inr g1))
 exact .inr (Wy t0 t1 hy (by grind) (by grind) e1 e2)
end Go.Eng
