
import Derived.Test.YtbfknjpggfkgjaaGreatSpecFA
import Derived.Test.YtbfknjpggfkgjaaGreatSpecLg
set_option linter.all false
set_option exponentiation.threshold 3000
set_option maxRecDepth 100000
set_option maxHeartbeats 2000000
namespace Go.Eng
theorem U1 {p d:Rat} (h:0 < d):p / d*d=p:=Rat.div_mul_cancel (by grind)
theorem VO {s t d:Rat} (h:s≤t) (hd:0≤d):s*d≤t*d:=Rat.mul_le_mul_of_nonneg_right h hd
theorem Wi {p d:Rat} (hp:0≤p) (h:0 < d):0≤p / d:=by
 refine Rat.not_lt.1 fun hn=>?_
 have e:=U1 (p:=p) h
 have:p / d*d < 0*d:=Rat.mul_lt_mul_of_pos_right hn h
 grind
theorem Wh {p d:Rat} (hp:p≤d) (h:0 < d):p / d≤1:=by
 refine Rat.not_lt.1 fun hn=>?_
 have e:=U1 (p:=p) h
 have:1*d < p / d*d:=Rat.mul_lt_mul_of_pos_right hn h
 grind
theorem enter {ax ay dx dy X0 X2 Y0 Y2:Rat} (hx:0≤dx) (hy:0≤dy) (hX:X0 < X2) (hY:Y0 < Y2) (a1:X0≤ax+dx) (a2:ax≤X2) (b1:Y0≤ay+dy) (b2:ay≤Y2) (f1:dx*(Y0 - ay) - dy*(X2 - ax)≤0) (f2:0≤dx*(Y2 - ay) - dy*(X0 - ax)) :
  (X0≤ax∧Y0≤ay)∨ ∃ t:Rat,0≤t∧t≤1∧((ax+t*dx=X0∧Y0≤ay+t*dy∧ay+t*dy≤Y2)∨(ay+t*dy=Y0∧X0≤ax+t*dx∧ax+t*dx≤X2)):=by
 by_cases c1:X0≤ax
 ·by_cases c2:Y0≤ay
  ·exact .inl ⟨c1,c2⟩
  ·refine .inr ⟨(Y0 - ay) / dy,Wi (by grind) (by grind),Wh (by grind) (by grind), .inr ?_⟩
   have hd:0 < dy:=by grind
   have e:=U1 (p:=Y0 - ay) hd
   have t0:0≤(Y0 - ay) / dy:=Wi (by grind) hd
   generalize (Y0 - ay) / dy=t at *
   have h1:0≤t*dx:=Rat.mul_nonneg t0 hx
   refine⟨by grind,by grind,?_⟩
   refine Rat.not_lt.1 fun hn=>?_
   have h2:0 < dy*(ax+t*dx - X2):=Rat.mul_pos hd (by grind)
   have h3:dy*(ax+t*dx - X2)=dx*(t*dy) - dy*(X2 - ax):=by grind
   rw[e] at h3
   grind
 ·have hd:0 < dx:=by grind
  have e:=U1 (p:=X0 - ax) hd
  have t0:0≤(X0 - ax) / dx:=Wi (by grind) hd
  have t1:(X0 - ax) / dx≤1:=Wh (by grind) hd
  generalize (X0 - ax) / dx=t at *
  by_cases c2:Y0≤ay+t*dy
  ·refine .inr ⟨t,t0,t1, .inl ⟨by grind,c2,?_⟩⟩
   refine Rat.not_lt.1 fun hn=>?_
   have h2:0 < dx*(ay+t*dy - Y2):=Rat.mul_pos hd (by grind)
   have h3:dx*(ay+t*dy - Y2)=dy*(t*dx) - dx*(Y2 - ay):=by grind
   rw[e] at h3
   grind
  ·have hd2:0 < dy:=by
    refine Rat.not_le.1 fun hn=>?_
    have:dy=0:=by grind
    subst this
    grind
   have e2:=U1 (p:=Y0 - ay) hd2
   have u1:(Y0 - ay) / dy≤1:=Wh (by grind) hd2
   generalize (Y0 - ay) / dy=u at *
   have hut:t < u:=by
    refine Rat.not_le.1 fun hn=>?_
    have:=VO hn hy
    grind
   have h1:t*dx≤u*dx:=VO (by grind) hx
   refine .inr ⟨u,by grind,u1, .inr ⟨by grind,by grind,?_⟩⟩
   refine Rat.not_lt.1 fun hn=>?_
   have h2:0 < dy*(ax+u*dx - X2):=Rat.mul_pos hd2 (by grind)
   have h3:dy*(ax+u*dx - X2)=dx*(u*dy) - dy*(X2 - ax):=by grind
   rw[e2] at h3
   grind
def Rim (ax ay dx dy X0 X2 Y0 Y2:Rat):Prop:= ∃ t:Rat,0≤t∧t≤1∧(((ax+t*dx=X0∨ax+t*dx=X2)∧Y0≤ay+t*dy∧ay+t*dy≤Y2)∨((ay+t*dy=Y0∨ay+t*dy=Y2)∧X0≤ax+t*dx∧ax+t*dx≤X2))
def VD (ax ay X0 X2 Y0 Y2:Rat):Prop:=(X0≤ax∧ax≤X2)∧(Y0≤ay∧ay≤Y2)
def VK (ax ay dx dy px py:Rat):Rat:=dx*(py - ay) - dy*(px - ax)
theorem sat {ax ay dx dy X0 X2 Y0 Y2:Rat} (hX:X0 < X2) (hY:Y0 < Y2) (n1: ¬ (ax < X0∧ax+dx < X0)) (n2: ¬ (X2 < ax∧X2 < ax+dx)) (n3: ¬ (ay < Y0∧ay+dy < Y0)) (n4: ¬ (Y2 < ay∧Y2 < ay+dy))
  (m1: ¬ (0 < VK ax ay dx dy X0 Y0∧0 < VK ax ay dx dy X2 Y0∧0 < VK ax ay dx dy X2 Y2∧0 < VK ax ay dx dy X0 Y2)) (m2: ¬ (VK ax ay dx dy X0 Y0 < 0∧VK ax ay dx dy X2 Y0 < 0∧VK ax ay dx dy X2 Y2 < 0∧VK ax ay dx dy X0 Y2 < 0)) :
  VD ax ay X0 X2 Y0 Y2∨Rim ax ay dx dy X0 X2 Y0 Y2:=by
 unfold VK at m1 m2
 by_cases cx:0≤dx <;> by_cases cy:0≤dy
 ·have p1:0≤dx*(Y2 - Y0):=Rat.mul_nonneg cx (by grind)
  have p2:0≤dy*(X2 - X0):=Rat.mul_nonneg cy (by grind)
  rcases enter (ax:=ax) (ay:=ay) (dx:=dx) (dy:=dy) (X0:=X0) (X2:=X2) (Y0:=Y0) (Y2:=Y2) cx cy hX hY (by grind) (by grind) (by grind) (by grind) (by grind) (by grind) with h | ⟨t,t0,t1,h⟩
  ·exact .inl ⟨⟨h.1,by grind⟩,h.2,by grind⟩
  ·refine .inr ⟨t,t0,t1,?_⟩
   rcases h with ⟨h1,h2,h3⟩ | ⟨h1,h2,h3⟩
   ·exact .inl ⟨.inl h1,h2,h3⟩
   ·exact .inr ⟨.inl h1,h2,h3⟩
 ·have p1:0≤dx*(Y2 - Y0):=Rat.mul_nonneg cx (by grind)
  have p2:0≤(-dy)*(X2 - X0):=Rat.mul_nonneg (by grind) (by grind)
  rcases enter (ax:=ax) (ay:= -ay) (dx:=dx) (dy:= -dy) (X0:=X0) (X2:=X2) (Y0:= -Y2) (Y2:= -Y0) cx (by grind) hX (by grind) (by grind) (by grind) (by grind) (by grind) (by grind) (by grind) with h | ⟨t,t0,t1,h⟩
  ·exact .inl ⟨⟨h.1,by grind⟩,by grind,by grind⟩
  ·refine .inr ⟨t,t0,t1,?_⟩
   rcases h with ⟨h1,h2,h3⟩ | ⟨h1,h2,h3⟩
   ·exact .inl ⟨.inl h1,by grind,by grind⟩
   ·exact .inr ⟨.inr (by grind),h2,h3⟩
 ·have p1:0≤(-dx)*(Y2 - Y0):=Rat.mul_nonneg (by grind) (by grind)
  have p2:0≤dy*(X2 - X0):=Rat.mul_nonneg cy (by grind)
  rcases enter (ax:= -ax) (ay:=ay) (dx:= -dx) (dy:=dy) (X0:= -X2) (X2:= -X0) (Y0:=Y0) (Y2:=Y2) (by grind) cy (by grind) hY (by grind) (by grind) (by grind) (by grind) (by grind) (by grind) with h | ⟨t,t0,t1,h⟩
  ·exact .inl ⟨⟨by grind,by grind⟩,h.2,by grind⟩
  ·refine .inr ⟨t,t0,t1,?_⟩
   rcases h with ⟨h1,h2,h3⟩ | ⟨h1,h2,h3⟩
   ·exact .inl ⟨.inr (by grind),h2,h3⟩
   ·exact .inr ⟨.inl h1,by grind,by grind⟩
 ·have p1:0≤(-dx)*(Y2 - Y0):=Rat.mul_nonneg (by grind) (by grind)
  have p2:0≤(-dy)*(X2 - X0):=Rat.mul_nonneg (by grind) (by grind)
  rcases enter (ax:= -ax) (ay:= -ay) (dx:= -dx) (dy:= -dy) (X0:= -X2) (X2:= -X0) (Y0:= -Y2) (Y2:= -Y0) (by grind) (by grind) (by grind) (by grind) (by grind) (by grind) (by grind) (by grind) (by grind) (by grind) with h | ⟨t,t0,t1,h⟩
  ·exact .inl ⟨⟨by grind,by grind⟩,by grind,by grind⟩
  ·refine .inr ⟨t,t0,t1,?_⟩
   rcases h with ⟨h1,h2,h3⟩ | ⟨h1,h2,h3⟩
   ·exact .inl ⟨.inr (by grind),by grind,by grind⟩
   ·exact .inr ⟨.inr (by grind),by grind,by grind⟩
theorem nn {u v:Rat} (hu:0≤u) (hv:0≤v):0≤u*v:=Rat.mul_nonneg hu hv
theorem pp {u v:Rat} (hu:0 < u) (hv:0 < v):0 < u*v:=Rat.mul_pos hu hv
theorem Yu (z:Rat):0≤z*z:=by
 by_cases hz:0≤z
 ·exact nn hz hz
 ·have:=nn (u:= -z) (v:= -z) (by grind) (by grind)
  grind
theorem WQ {t D:Rat} (hD:0 < D) (h:0≤t*(1 - t)*D):0≤t∧t≤1:=by
 have h2:0≤t*(1 - t):=uY hD (by rw[Rat.mul_comm D];exact h)
 by_cases h0:t < 0
 ·exfalso
  have:=pp (u:= -t) (v:=1 - t) (by grind) (by grind)
  grind
 ·by_cases h1:1 < t
  ·exfalso
   have:=pp (u:=t) (v:=t - 1) (by grind) (by grind)
   grind
  ·exact⟨by grind,by grind⟩
theorem Zq {ax ay bx by_ qx qy:Rat} (hc:(bx - ax)*(qy - ay) - (by_ - ay)*(qx - ax)=0) (hd:(ax - qx)*(bx - qx)+(ay - qy)*(by_ - qy)≤0): ∃ t:Rat,0≤t∧t≤1∧ax+t*(bx - ax)=qx∧ay+t*(by_ - ay)=qy:=by
 by_cases ex:bx - ax=0
 ·by_cases ey:by_ - ay=0
  ·have e1:bx=ax:=by grind
   have e2:by_=ay:=by grind
   subst e1 e2
   obtain⟨h1,h2⟩:=Hj hd
   exact⟨0,by grind,by grind,by grind,by grind⟩
  ·have e1:bx=ax:=by grind
   subst e1
   have hx:qx=bx:=by
    have:(by_ - ay)*(qx - bx)=0:=by grind
    rcases Rat.mul_eq_zero.1 this with h | h
    ·exact absurd h ey
    ·grind
   subst hx
   have key:(qy - ay) / (by_ - ay)*(by_ - ay)=qy - ay:=Rat.div_mul_cancel ey
   generalize (qy - ay) / (by_ - ay)=t at *
   have hq:qy=ay+t*(by_ - ay):=by grind
   subst hq
   have hr:=WQ (t:=t) (Wa ey) (by grind)
   exact⟨t,hr.1,hr.2,by grind,rfl⟩
 ·have key:(qx - ax) / (bx - ax)*(bx - ax)=qx - ax:=Rat.div_mul_cancel ex
  generalize (qx - ax) / (bx - ax)=t at *
  have hq:qx=ax+t*(bx - ax):=by grind
  subst hq
  have hy:qy=ay+t*(by_ - ay):=by
   have:(bx - ax)*(qy - (ay+t*(by_ - ay)))=0:=by grind
   rcases Rat.mul_eq_zero.1 this with h | h
   ·exact absurd h ex
   ·grind
  subst hy
  have hr:=WQ (t:=t) (XT (x:=bx - ax) (y:=by_ - ay) (.inl ex)) (by grind)
  exact⟨t,hr.1,hr.2,rfl,rfl⟩
end Go.Eng
