
import Derived.Test.YtdbmppedhaipoaaGreatSpecU
import Derived.Test.YtdbmppedhaipoaaGreatSpecFA
import Derived.Test.YtdbmppedhaipoaaGreatSpecLg
set_option linter.all false
set_option exponentiation.threshold 3000
set_option maxRecDepth 100000
set_option maxHeartbeats 2000000
namespace Go.Eng
def Vq (x y s:Int):Bool:=(decide (s=1)||decide (s=2)||decide (s=4)||decide (s=8)||decide (s=16)||decide (s=32)||decide (s=64))&&decide (0≤x)&&decide (0≤y)&&decide (x≤64 - s)&&decide (y≤64 - s)&&decide (x % s=0)&&decide (y % s=0)
def Vv (a b lo hi:Rt):Bool:=(decide (aO.cmp a lo < 0)&&decide (aO.cmp b lo < 0))||(decide (aO.cmp a hi > 0)&&decide (aO.cmp b hi > 0))
def VC (n:Int) (a b p0 p1 p2 p3:Pt):Bool:=decide (bD.turn a b p0=n)&&(decide (bD.turn a b p1=n)&&(decide (bD.turn a b p2=n)&&decide (bD.turn a b p3=n)))
def Wg (a b p0 p1 p2 p3:Pt):Bool:=VC 1 a b p0 p1 p2 p3||VC (-1) a b p0 p1 p2 p3
def coB (x y s:Int):Nat→Pt
 | 0=>bD.at_ x y
 | 1=>bD.at_ (aD .add .i64 x s) y
 | 2=>bD.at_ (aD .add .i64 x s) (aD .add .i64 y s)
 | _=>bD.at_ x (aD .add .i64 y s)
def XX (x y s:Int) (a b:Pt):Bool:= !(Vv a.X b.X (coB x y s 0).X (coB x y s 2).X||Vv a.Y b.Y (coB x y s 0).Y (coB x y s 2).Y)&& !Wg a b (coB x y s 0) (coB x y s 1) (coB x y s 2) (coB x y s 3)
def inB (x y s:Int) (p:Pt):Bool:=decide (aO.cmp p.X (coB x y s 0).X ≥ 0)&&(decide (aO.cmp p.X (coB x y s 2).X≤0)&&(decide (aO.cmp p.Y (coB x y s 0).Y ≥ 0)&&decide (aO.cmp p.Y (coB x y s 2).Y≤0)))
def YH (x y s:Int) (a b:Pt):Bool:=decide (kM.meet a b (coB x y s 0) (coB x y s 1) > 0)||(decide (kM.meet a b (coB x y s 1) (coB x y s 2) > 0)||(decide (kM.meet a b (coB x y s 2) (coB x y s 3) > 0)||decide (kM.meet a b (coB x y s 3) (coB x y s 0) > 0)))
def U3 (x y s:Int) (a b:Pt):Bool:=Vq x y s&&(dX [a,b]&&XX x y s a b)
def Yv (x y s:Int) (a b:Pt):Bool:=Vq x y s&&(dX [a,b]&&(YH x y s a b||inB x y s a))
def VM (x y s:Int) (V S:List (Int×Int×Int)) (k:Int):Bool:=U3 x y s (ptV V (cK S k).1) (ptV V (cK S k).2.1)
def V4 (x y s:Int) (V S:List (Int×Int×Int)):Nat→List Int
 | 0=>[]
 | k+1=>if VM x y s V S k then V4 x y s V S k++[(k:Int)] else V4 x y s V S k
def crJ (ax ay bx by_ px py:Int):Int:=(bx - ax)*(py - ay) - (by_ - ay)*(px - ax)
def metI (x y s ax ay bx by_:Int):Bool:=
 !(decide (aA.mx ax bx < x)||(decide (aA.mn ax bx > x+s)||(decide (aA.mx ay by_ < y)||decide (aA.mn ay by_ > y+s))))&&
 ((decide (crJ ax ay bx by_ x y ≥ 0)||(decide (crJ ax ay bx by_ (x+s) y ≥ 0)||(decide (crJ ax ay bx by_ x (y+s) ≥ 0)||decide (crJ ax ay bx by_ (x+s) (y+s) ≥ 0))))&&
  (decide (crJ ax ay bx by_ x y≤0)||(decide (crJ ax ay bx by_ (x+s) y≤0)||(decide (crJ ax ay bx by_ x (y+s)≤0)||decide (crJ ax ay bx by_ (x+s) (y+s)≤0)))))
structure SB where
 apart:Rt→Rt→Rt→Rt→Bool
 aside:Pt→Pt→Pt→Pt→Pt→Pt→Bool
 c0:Int→Int→Int→Pt
 c1:Int→Int→Int→Pt
 c2:Int→Int→Int→Pt
 c3:Int→Int→Int→Pt
 met:Int→Int→Int→Pt→Pt→Bool
 in_:Int→Int→Int→Pt→Bool
 rim:Int→Int→Int→Pt→Pt→Bool
 seg:Int→Int→Int→Pt→Pt→Bool
 tch:Int→Int→Int→Pt→Pt→Bool
 all:Int→Int→Int→List (Int×Int×Int)→List (Int×Int×Int)→List Pt→List Int
 any:Int→Int→Int→List (Int×Int×Int)→List (Int×Int×Int)→List Pt→Bool
 metI:Int→Int→Int→Int→Int→Int→Int→Bool
def UP:SB where
 apart:=Vv
 aside:=Wg
 c0 x y s:=coB x y s 0
 c1 x y s:=coB x y s 1
 c2 x y s:=coB x y s 2
 c3 x y s:=coB x y s 3
 met:=XX
 in_:=inB
 rim:=YH
 seg:=U3
 tch:=Yv
 all x y s V S l:=if Cm V S l=0 then V4 x y s V S S.length else[]
 any x y s V S l:=decide (Cm V S l=0)&&cY (aY S) (VM x y s V S)
 metI:=metI
theorem U1 {p d:Rat} (h:0 < d):p / d*d=p:=Rat.div_mul_cancel (by grind)
theorem VO {s t d:Rat} (h:s≤t) (hd:0≤d):s*d≤t*d:=Rat.mul_le_mul_of_nonneg_right h hd
theorem Wi {p d:Rat} (hp:0≤p) (h:0 < d):0≤p / d:=by
 refine Rat.not_lt.1 fun hn=>?_
 have e:=U1 (p:=p) h
 have:p / d*d < 0*d:=Rat.mul_lt_mul_of_pos_right hn h
 grind
theorem Wh {p d:Rat} (hp:p≤d) (h:0 < d):p / d≤1:=by
 refine Rat.not_lt.1 fun hn=>?_
 have e:=U1 (p:=p) h
 have:1*d < p / d*d:=Rat.mul_lt_mul_of_pos_right hn h
 grind
theorem enter {ax ay dx dy X0 X2 Y0 Y2:Rat} (hx:0≤dx) (hy:0≤dy) (hX:X0 < X2) (hY:Y0 < Y2) (a1:X0≤ax+dx) (a2:ax≤X2) (b1:Y0≤ay+dy) (b2:ay≤Y2) (f1:dx*(Y0 - ay) - dy*(X2 - ax)≤0) (f2:0≤dx*(Y2 - ay) - dy*(X0 - ax)) :
  (X0≤ax∧Y0≤ay)∨ ∃ t:Rat,0≤t∧t≤1∧((ax+t*dx=X0∧Y0≤ay+t*dy∧ay+t*dy≤Y2)∨(ay+t*dy=Y0∧X0≤ax+t*dx∧ax+t*dx≤X2)):=by
 by_cases c1:X0≤ax
 ·by_cases c2:Y0≤ay
  ·exact .inl ⟨c1,c2⟩
  ·refine .inr ⟨(Y0 - ay) / dy,Wi (by grind) (by grind),Wh (by grind) (by grind), .inr ?_⟩
   have hd:0 < dy:=by grind
   have e:=U1 (p:=Y0 - ay) hd
   have t0:0≤(Y0 - ay) / dy:=Wi (by grind) hd
   generalize (Y0 - ay) / dy=t at *
   have h1:0≤t*dx:=Rat.mul_nonneg t0 hx
   refine⟨by grind,by grind,?_⟩
   refine Rat.not_lt.1 fun hn=>?_
   have h2:0 < dy*(ax+t*dx - X2):=Rat.mul_pos hd (by grind)
   have h3:dy*(ax+t*dx - X2)=dx*(t*dy) - dy*(X2 - ax):=by grind
   rw[e] at h3
   grind
 ·have hd:0 < dx:=by grind
  have e:=U1 (p:=X0 - ax) hd
  have t0:0≤(X0 - ax) / dx:=Wi (by grind) hd
  have t1:(X0 - ax) / dx≤1:=Wh (by grind) hd
  generalize (X0 - ax) / dx=t at *
  by_cases c2:Y0≤ay+t*dy
  ·refine .inr ⟨t,t0,t1, .inl ⟨by grind,c2,?_⟩⟩
   refine Rat.not_lt.1 fun hn=>?_
   have h2:0 < dx*(ay+t*dy - Y2):=Rat.mul_pos hd (by grind)
   have h3:dx*(ay+t*dy - Y2)=dy*(t*dx) - dx*(Y2 - ay):=by grind
   rw[e] at h3
   grind
  ·have hd2:0 < dy:=by
    refine Rat.not_le.1 fun hn=>?_
    have:dy=0:=by grind
    subst this
    grind
   have e2:=U1 (p:=Y0 - ay) hd2
   have u1:(Y0 - ay) / dy≤1:=Wh (by grind) hd2
   generalize (Y0 - ay) / dy=u at *
   have hut:t < u:=by
    refine Rat.not_le.1 fun hn=>?_
    have:=VO hn hy
    grind
   have h1:t*dx≤u*dx:=VO (by grind) hx
   refine .inr ⟨u,by grind,u1, .inr ⟨by grind,by grind,?_⟩⟩
   refine Rat.not_lt.1 fun hn=>?_
   have h2:0 < dy*(ax+u*dx - X2):=Rat.mul_pos hd2 (by grind)
   have h3:dy*(ax+u*dx - X2)=dx*(u*dy) - dy*(X2 - ax):=by grind
   rw[e2] at h3
   grind
def Rim (ax ay dx dy X0 X2 Y0 Y2:Rat):Prop:= ∃ t:Rat,0≤t∧t≤1∧(((ax+t*dx=X0∨ax+t*dx=X2)∧Y0≤ay+t*dy∧ay+t*dy≤Y2)∨((ay+t*dy=Y0∨ay+t*dy=Y2)∧X0≤ax+t*dx∧ax+t*dx≤X2))
def VD (ax ay X0 X2 Y0 Y2:Rat):Prop:=(X0≤ax∧ax≤X2)∧(Y0≤ay∧ay≤Y2)
def side (ax ay dx dy px py:Rat):Rat:=dx*(py - ay) - dy*(px - ax)
theorem sat {ax ay dx dy X0 X2 Y0 Y2:Rat} (hX:X0 < X2) (hY:Y0 < Y2) (n1: ¬ (ax < X0∧ax+dx < X0)) (n2: ¬ (X2 < ax∧X2 < ax+dx)) (n3: ¬ (ay < Y0∧ay+dy < Y0)) (n4: ¬ (Y2 < ay∧Y2 < ay+dy))
  (m1: ¬ (0 < side ax ay dx dy X0 Y0∧0 < side ax ay dx dy X2 Y0∧0 < side ax ay dx dy X2 Y2∧0 < side ax ay dx dy X0 Y2)) (m2: ¬ (side ax ay dx dy X0 Y0 < 0∧side ax ay dx dy X2 Y0 < 0∧side ax ay dx dy X2 Y2 < 0∧side ax ay dx dy X0 Y2 < 0)) :
  VD ax ay X0 X2 Y0 Y2∨Rim ax ay dx dy X0 X2 Y0 Y2:=by
 unfold side at m1 m2
 by_cases cx:0≤dx <;> by_cases cy:0≤dy
 ·have p1:0≤dx*(Y2 - Y0):=Rat.mul_nonneg cx (by grind)
  have p2:0≤dy*(X2 - X0):=Rat.mul_nonneg cy (by grind)
  rcases enter (ax:=ax) (ay:=ay) (dx:=dx) (dy:=dy) (X0:=X0) (X2:=X2) (Y0:=Y0) (Y2:=Y2) cx cy hX hY (by grind) (by grind) (by grind) (by grind) (by grind) (by grind) with h | ⟨t,t0,t1,h⟩
  ·exact .inl ⟨⟨h.1,by grind⟩,h.2,by grind⟩
  ·refine .inr ⟨t,t0,t1,?_⟩
   rcases h with ⟨h1,h2,h3⟩ | ⟨h1,h2,h3⟩
   ·exact .inl ⟨.inl h1,h2,h3⟩
   ·exact .inr ⟨.inl h1,h2,h3⟩
 ·have p1:0≤dx*(Y2 - Y0):=Rat.mul_nonneg cx (by grind)
  have p2:0≤(-dy)*(X2 - X0):=Rat.mul_nonneg (by grind) (by grind)
  rcases enter (ax:=ax) (ay:= -ay) (dx:=dx) (dy:= -dy) (X0:=X0) (X2:=X2) (Y0:= -Y2) (Y2:= -Y0) cx (by grind) hX (by grind) (by grind) (by grind) (by grind) (by grind) (by grind) (by grind) with h | ⟨t,t0,t1,h⟩
  ·exact .inl ⟨⟨h.1,by grind⟩,by grind,by grind⟩
  ·refine .inr ⟨t,t0,t1,?_⟩
   rcases h with ⟨h1,h2,h3⟩ | ⟨h1,h2,h3⟩
   ·exact .inl ⟨.inl h1,by grind,by grind⟩
   ·exact .inr ⟨.inr (by grind),h2,h3⟩
 ·have p1:0≤(-dx)*(Y2 - Y0):=Rat.mul_nonneg (by grind) (by grind)
  have p2:0≤dy*(X2 - X0):=Rat.mul_nonneg cy (by grind)
  rcases enter (ax:= -ax) (ay:=ay) (dx:= -dx) (dy:=dy) (X0:= -X2) (X2:= -X0) (Y0:=Y0) (Y2:=Y2) (by grind) cy (by grind) hY (by grind) (by grind) (by grind) (by grind) (by grind) (by grind) with h | ⟨t,t0,t1,h⟩
  ·exact .inl ⟨⟨by grind,by grind⟩,h.2,by grind⟩
  ·refine .inr ⟨t,t0,t1,?_⟩
   rcases h with ⟨h1,h2,h3⟩ | ⟨h1,h2,h3⟩
   ·exact .inl ⟨.inr (by grind),h2,h3⟩
   ·exact .inr ⟨.inl h1,by grind,by grind⟩
 ·have p1:0≤(-dx)*(Y2 - Y0):=Rat.mul_nonneg (by grind) (by grind)
  have p2:0≤(-dy)*(X2 - X0):=Rat.mul_nonneg (by grind) (by grind)
  rcases enter (ax:= -ax) (ay:= -ay) (dx:= -dx) (dy:= -dy) (X0:= -X2) (X2:= -X0) (Y0:= -Y2) (Y2:= -Y0) (by grind) (by grind) (by grind) (by grind) (by grind) (by grind) (by grind) (by grind) (by grind) (by grind) with h | ⟨t,t0,t1,h⟩
  ·exact .inl ⟨⟨by grind,by grind⟩,by grind,by grind⟩
  ·refine .inr ⟨t,t0,t1,?_⟩
   rcases h with ⟨h1,h2,h3⟩ | ⟨h1,h2,h3⟩
   ·exact .inl ⟨.inr (by grind),by grind,by grind⟩
   ·exact .inr ⟨.inr (by grind),by grind,by grind⟩
theorem VX {ax ay dx dy X0 X2 Y0 Y2 t:Rat} (t0:0≤t) (t1:t≤1) (h:VD (ax+t*dx) (ay+t*dy) X0 X2 Y0 Y2): ¬ (ax < X0∧ax+dx < X0)∧ ¬ (X2 < ax∧X2 < ax+dx)∧ ¬ (ay < Y0∧ay+dy < Y0)∧ ¬ (Y2 < ay∧Y2 < ay+dy):=by
 obtain⟨⟨h1,h2⟩,h3,h4⟩:=h
 have key: ∀ a d X:Rat,a < X→a+d < X→a+t*d < X:=fun a d X g1 g2=>by
  by_cases hd:0≤d
  ·have:t*d≤1*d:=VO t1 hd
   grind
  ·have:0≤t*(-d):=Rat.mul_nonneg t0 (by grind)
   grind
 have key2: ∀ a d X:Rat,X < a→X < a+d→X < a+t*d:=fun a d X g1 g2=>by
  have:=key (-a) (-d) (-X) (by grind) (by grind)
  grind
 refine⟨fun g=>?_,fun g=>?_,fun g=>?_,fun g=>?_⟩
 ·have:=key _ _ _ g.1 g.2;grind
 ·have:=key2 _ _ _ g.1 g.2;grind
 ·have:=key _ _ _ g.1 g.2;grind
 ·have:=key2 _ _ _ g.1 g.2;grind
theorem V8 {ax ay dx dy X0 X2 Y0 Y2 t:Rat} (h:VD (ax+t*dx) (ay+t*dy) X0 X2 Y0 Y2): ¬ (0 < side ax ay dx dy X0 Y0∧0 < side ax ay dx dy X2 Y0∧0 < side ax ay dx dy X2 Y2∧0 < side ax ay dx dy X0 Y2):=by
 rintro⟨m1,m2,m3,m4⟩
 obtain⟨⟨h1,h2⟩,h3,h4⟩:=h
 unfold side at m1 m2 m3 m4
 have z:dx*((ay+t*dy) - ay) - dy*((ax+t*dx) - ax)=0:=by grind
 generalize ax+t*dx=qx at *
 generalize ay+t*dy=qy at *
 by_cases cx:0≤dx <;> by_cases cy:0≤dy
 ·have p1:0≤dx*(qy - Y0):=Rat.mul_nonneg cx (by grind)
  have p2:0≤dy*(X2 - qx):=Rat.mul_nonneg cy (by grind)
  grind
 ·have p1:0≤dx*(qy - Y0):=Rat.mul_nonneg cx (by grind)
  have p2:0≤(-dy)*(qx - X0):=Rat.mul_nonneg (by grind) (by grind)
  grind
 ·have p1:0≤(-dx)*(Y2 - qy):=Rat.mul_nonneg (by grind) (by grind)
  have p2:0≤dy*(X2 - qx):=Rat.mul_nonneg cy (by grind)
  grind
 ·have p1:0≤(-dx)*(Y2 - qy):=Rat.mul_nonneg (by grind) (by grind)
  have p2:0≤(-dy)*(qx - X0):=Rat.mul_nonneg (by grind) (by grind)
  grind
theorem Wx {ax ay dx dy X0 X2 Y0 Y2 t:Rat} (h:VD (ax+t*dx) (ay+t*dy) X0 X2 Y0 Y2): ¬ (side ax ay dx dy X0 Y0 < 0∧side ax ay dx dy X2 Y0 < 0∧side ax ay dx dy X2 Y2 < 0∧side ax ay dx dy X0 Y2 < 0):=by
 rintro⟨m1,m2,m3,m4⟩
 have h':VD (ax+(-t)*(-dx)) (ay+(-t)*(-dy)) X0 X2 Y0 Y2:=by
  have e1:ax+(-t)*(-dx)=ax+t*dx:=by grind
  have e2:ay+(-t)*(-dy)=ay+t*dy:=by grind
  rw[e1,e2];exact h
 refine V8 h' ?_
 unfold side at *
 exact⟨by grind,by grind,by grind,by grind⟩
theorem nn {u v:Rat} (hu:0≤u) (hv:0≤v):0≤u*v:=Rat.mul_nonneg hu hv
theorem pp {u v:Rat} (hu:0 < u) (hv:0 < v):0 < u*v:=Rat.mul_pos hu hv
structure XW (x y s:Int):Prop where
 s0:1≤s
 s1:s≤64
 x0:0≤x
 y0:0≤y
 x1:x+s≤64
 y1:y+s≤64
theorem Vb {x y s:Int} (h:Vq x y s=true):XW x y s:=by
 unfold Vq at h
 simp only[Bool.and_eq_true,Bool.or_eq_true,decide_eq_true_eq] at h
 obtain⟨⟨⟨⟨⟨⟨h1,h2⟩,h3⟩,h4⟩,h5⟩,_⟩,_⟩:=h
 exact⟨by omega,by omega,by omega,by omega,by omega,by omega⟩
theorem WU {z:Int} (h0:0≤z) (h1:z≤64):Sm 60 z:=by
 show z.natAbs < 2 ^ 60
 have:(2:Nat) ^ 60=1152921504606846976:=rfl
 omega
theorem WZ {x y s:Int} (h:XW x y s):AtP (coB x y s 0) x y∧AtP (coB x y s 1) (x+s) y∧AtP (coB x y s 2) (x+s) (y+s)∧AtP (coB x y s 3) x (y+s):=by
 obtain⟨h1,h2,h3,h4,h5,h6⟩:=h
 have e1:aD .add .i64 x s=x+s:=by show IntKind.i64.wrap _=_;rw[IntKind.wrap_i64];omega
 have e2:aD .add .i64 y s=y+s:=by show IntKind.i64.wrap _=_;rw[IntKind.wrap_i64];omega
 refine⟨atP (WU (by omega) (by omega)) (WU (by omega) (by omega)),?_,?_,?_⟩
 ·show AtP (bD.at_ (aD .add .i64 x s) y) _ _
  rw[e1];exact atP (WU (by omega) (by omega)) (WU (by omega) (by omega))
 ·show AtP (bD.at_ (aD .add .i64 x s) (aD .add .i64 y s)) _ _
  rw[e1,e2];exact atP (WU (by omega) (by omega)) (WU (by omega) (by omega))
 ·show AtP (bD.at_ x (aD .add .i64 y s)) _ _
  rw[e2];exact atP (WU (by omega) (by omega)) (WU (by omega) (by omega))
theorem Vw {a b:Rt} (ha:fT a 60) (hb:fT b 60):aO.cmp a b=cZ (bI a) (bI b):=((Cal.of ha).cmp (Cal.of hb) (by decide)).2
theorem WP (p q:Rat):(cZ p q < 0)↔p < q:=by
 rcases dH p q with ⟨h,e,_⟩ | ⟨h,e,_⟩ | ⟨h,e,_⟩ <;> rw[e] <;> constructor <;> intro hh <;> first | exact absurd hh (by decide) | exact h | decide | grind
theorem WO (p q:Rat):(cZ p q > 0)↔q < p:=by
 rcases dH p q with ⟨h,e,_⟩ | ⟨h,e,_⟩ | ⟨h,e,_⟩ <;> rw[e] <;> constructor <;> intro hh <;> first | exact absurd hh (by decide) | exact h | decide | grind
theorem Vm {a b lo hi:Rt} (ha:fT a 60) (hb:fT b 60) (hl:fT lo 60) (hh:fT hi 60):Vv a b lo hi=true↔(bI a < bI lo∧bI b < bI lo)∨(bI hi < bI a∧bI hi < bI b):=by
 unfold Vv
 rw[Vw ha hl,Vw hb hl,Vw ha hh,Vw hb hh,Bool.or_eq_true,Bool.and_eq_true,Bool.and_eq_true,decide_eq_true_eq,decide_eq_true_eq,decide_eq_true_eq,decide_eq_true_eq,WP,WP,WO,WO]
theorem VU {a b p:Pt} (ha:dJ a=true) (hb:dJ b=true) (hp:dJ p=true):bD.turn a b p=cZ (side (px a) (py a) (px b - px a) (py b - py a) (px p) (py p)) 0:=kN (AL ha hb hp)
theorem XS (q:Rat):(cZ q 0=1)↔0 < q:=by
 rcases dH q 0 with ⟨h,e,_⟩ | ⟨h,e,_⟩ | ⟨h,e,_⟩ <;> rw[e] <;> constructor <;> intro hh <;> first | exact absurd hh (by decide) | exact h | decide | grind
theorem Xb (q:Rat):(cZ q 0= -1)↔q < 0:=by
 rcases dH q 0 with ⟨h,e,_⟩ | ⟨h,e,_⟩ | ⟨h,e,_⟩ <;> rw[e] <;> constructor <;> intro hh <;> first | exact absurd hh (by decide) | exact h | decide | grind
def Hit (ax ay bx by_ X0 X2 Y0 Y2:Rat):Prop:= ∃ t:Rat,0≤t∧t≤1∧VD (ax+t*(bx - ax)) (ay+t*(by_ - ay)) X0 X2 Y0 Y2
theorem WC {x y s:Int} {a b:Pt} (h:XW x y s) (ha:dJ a=true) (hb:dJ b=true):XX x y s a b=true↔Hit (px a) (py a) (px b) (py b) (x:Rat) ((x+s:Int):Rat) (y:Rat) ((y+s:Int):Rat):=by
 obtain⟨c0,c1,c2,c3⟩:=WZ h
 have hs:=h.s0
 have hX:(x:Rat) < ((x+s:Int):Rat):=Rat.intCast_lt_intCast.2 (by omega)
 have hY:(y:Rat) < ((y+s:Int):Rat):=Rat.intCast_lt_intCast.2 (by omega)
 have Ia:=e9 ha
 have Ib:=e9 hb
 have I0:=e9 c0.is
 have I2:=e9 c2.is
 unfold XX
 rw[Bool.and_eq_true,Bool.not_eq_true',Bool.not_eq_true', ← Bool.not_eq_true, ← Bool.not_eq_true,Bool.or_eq_true,Vm Ia.x Ib.x I0.x I2.x,Vm Ia.y Ib.y I0.y I2.y]
 unfold Wg VC
 rw[VU ha hb c0.is,VU ha hb c1.is,VU ha hb c2.is,VU ha hb c3.is]
 simp only[Bool.or_eq_true,Bool.and_eq_true,decide_eq_true_eq,XS,Xb]
 rw[c0.x,c0.y,c1.x,c1.y,c2.x,c2.y,c3.x,c3.y]
 have r0:bI (coB x y s 0).X=(x:Rat):=c0.x
 have r1:bI (coB x y s 0).Y=(y:Rat):=c0.y
 have r2:bI (coB x y s 2).X=((x+s:Int):Rat):=c2.x
 have r3:bI (coB x y s 2).Y=((y+s:Int):Rat):=c2.y
 rw[r0,r1,r2,r3]
 show ¬ (((px a < _∧px b < _)∨(_ < px a∧_ < px b))∨((py a < _∧py b < _)∨(_ < py a∧_ < py b)))∧_↔_
 clear r0 r1 r2 r3 I0 I2 Ia Ib c0 c1 c2 c3
 generalize (x:Rat)=X0 at *
 generalize (y:Rat)=Y0 at *
 generalize ((x+s:Int):Rat)=X2 at *
 generalize ((y+s:Int):Rat)=Y2 at *
 generalize px a=ax
 generalize py a=ay
 obtain⟨dx,hdx⟩:=exE (px b - ax)
 obtain⟨dy,hdy⟩:=exE (py b - ay)
 have ebx:px b=ax+dx:=by grind
 have eby:py b=ay+dy:=by grind
 unfold Hit
 rw[ebx,eby]
 have e1:ax+dx - ax=dx:=by grind
 have e2:ay+dy - ay=dy:=by grind
 rw[e1,e2]
 constructor
 ·rintro⟨h1,h2⟩
  rcases sat (ax:=ax) (ay:=ay) (dx:=dx) (dy:=dy) hX hY (fun g=>h1 (.inl (.inl g))) (fun g=>h1 (.inl (.inr g))) (fun g=>h1 (.inr (.inl g))) (fun g=>h1 (.inr (.inr g))) (fun g=>h2 (.inl g)) (fun g=>h2 (.inr g)) with g | ⟨t,t0,t1,g⟩
  ·exact⟨0,by grind,by grind,by rw[Rat.zero_mul,Rat.zero_mul,Rat.add_zero,Rat.add_zero];exact g⟩
  ·refine⟨t,t0,t1,?_⟩
   rcases g with ⟨g1,g2,g3⟩ | ⟨g1,g2,g3⟩
   ·exact⟨by rcases g1 with g1 | g1 <;> rw[g1] <;> grind,g2,g3⟩
   ·exact⟨⟨g2,g3⟩,by rcases g1 with g1 | g1 <;> rw[g1] <;> grind⟩
 ·rintro⟨t,t0,t1,g⟩
  obtain⟨k1,k2,k3,k4⟩:=VX t0 t1 g
  exact⟨by rintro((g1 | g1) | (g1 | g1)) <;> first | exact k1 g1 | exact k2 g1 | exact k3 g1 | exact k4 g1,by rintro(g1 | g1) <;> first | exact V8 g g1 | exact Wx g g1⟩
theorem Wf {a b:Pt} :dX [a,b]=true↔dJ a=true∧dJ b=true:=by
 unfold dX
 simp only[List.all_cons,List.all_nil,Bool.and_true,Bool.and_eq_true]
def YF (x y s:Int) (a b:Pt):Prop:=Hit (px a) (py a) (px b) (py b) (x:Rat) ((x+s:Int):Rat) (y:Rat) ((y+s:Int):Rat)
theorem UX {x y s:Int} {a b:Pt} :U3 x y s a b=true↔Vq x y s=true∧(dJ a=true∧dJ b=true)∧YF x y s a b:=by
 unfold U3
 rw[Bool.and_eq_true,Bool.and_eq_true,Wf]
 constructor
 ·rintro⟨h1,h2,h3⟩;exact⟨h1,h2,(WC (Vb h1) h2.1 h2.2).1 h3⟩
 ·rintro⟨h1,h2,h3⟩;exact⟨h1,h2,(WC (Vb h1) h2.1 h2.2).2 h3⟩
theorem Vy {a b p:Pt} {ax ay bx by_ X Y:Int} (ha:AtP a ax ay) (hb:AtP b bx by_) (hp:AtP p X Y):bD.turn a b p=sgn (crJ ax ay bx by_ X Y) 0:=by
 rw[kN (AL ha.is hb.is hp.is),vQ ha hb hp,En]
 rfl
theorem Zr (m:Int):(sgn m 0=1↔0 < m)∧(sgn m 0= -1↔m < 0):=by
 unfold sgn
 split
 ·constructor <;> constructor <;> intro h <;> first | omega | exact absurd h (by decide)
 ·split
  ·constructor <;> constructor <;> intro h <;> first | omega | exact absurd h (by decide)
  ·constructor <;> constructor <;> intro h <;> first | omega | exact absurd h (by decide)
theorem VN {x y s ax ay bx by_:Int} {a b:Pt} (h:XW x y s) (ha:AtP a ax ay) (hb:AtP b bx by_):metI x y s ax ay bx by_=XX x y s a b:=by
 obtain⟨c0,c1,c2,c3⟩:=WZ h
 have Ia:=e9 ha.is
 have Ib:=e9 hb.is
 have I0:=e9 c0.is
 have I2:=e9 c2.is
 rw[Bool.eq_iff_iff]
 unfold XX metI
 rw[Bool.and_eq_true,Bool.and_eq_true,Bool.not_eq_true',Bool.and_eq_true,Bool.not_eq_true',Bool.not_eq_true', ← Bool.not_eq_true, ← Bool.not_eq_true, ← Bool.not_eq_true,Bool.or_eq_true (Vv _ _ _ _),Vm Ia.x Ib.x I0.x I2.x,Vm Ia.y Ib.y I0.y I2.y]
 unfold Wg VC
 rw[Vy ha hb c0,Vy ha hb c1,Vy ha hb c2,Vy ha hb c3]
 simp only[Bool.or_eq_true,Bool.and_eq_true,decide_eq_true_eq,(Zr _).1,(Zr _).2]
 have r0:bI (coB x y s 0).X=(x:Rat):=c0.x
 have r1:bI (coB x y s 0).Y=(y:Rat):=c0.y
 have r2:bI (coB x y s 2).X=((x+s:Int):Rat):=c2.x
 have r3:bI (coB x y s 2).Y=((y+s:Int):Rat):=c2.y
 have r4:bI a.X=(ax:Rat):=ha.x
 have r5:bI a.Y=(ay:Rat):=ha.y
 have r6:bI b.X=(bx:Rat):=hb.x
 have r7:bI b.Y=(by_:Rat):=hb.y
 rw[r0,r1,r2,r3,r4,r5,r6,r7]
 have lt: ∀ m n:Int,((m:Rat) < (n:Rat))↔m < n:=fun m n=>Rat.intCast_lt_intCast
 simp only[lt]
 clear r0 r1 r2 r3 r4 r5 r6 r7 Ia Ib I0 I2 c0 c1 c2 c3 ha hb lt
 have mx: ∀ p q:Int,aA.mx p q=if p < q then q else p:=fun p q=>rfl
 have mn: ∀ p q:Int,aA.mn p q=if q < p then q else p:=fun p q=>rfl
 rw[mx,mx,mn,mn]
 generalize crJ ax ay bx by_ x y=t0
 generalize crJ ax ay bx by_ (x+s) y=t1
 generalize crJ ax ay bx by_ x (y+s)=t3
 generalize crJ ax ay bx by_ (x+s) (y+s)=t2
 constructor
 ·rintro⟨h1,h2,h3⟩
  constructor
  ·rintro((g | g) | (g | g)) <;> apply h1 <;> (split <;> split <;> split <;> split <;> omega)
  ·rintro(g | g) <;> omega
 ·rintro⟨h1,h2⟩
  refine⟨?_,by omega,by omega⟩
  rintro(g | g | g | g) <;> apply h1 <;> (revert g;split <;> intro g <;> omega)
theorem Zl {V:List (Int×Int×Int)} {i:Int} (h1:nS V i=true) (h2:Fe (cK V i)=false):AtP (ptV V i) (cK V i).1 (cK V i).2.1:=by
 unfold ptV axV ayV
 rw[h1]
 unfold Fe at h2
 simp at h2
 exact atP (WU (by simp;omega) (by simp;omega)) (WU (by simp;omega) (by simp;omega))
structure CkI (V S:List (Int×Int×Int)) (k:Int):Prop where
 a:nS V (cK S k).1=true
 b:nS V (cK S k).2.1=true
 oa:Fe (cK V (cK S k).1)=false
 ob:Fe (cK V (cK S k).2.1)=false
theorem Zn {V S:List (Int×Int×Int)} {l:List Pt} (h:Cm V S l=0) {k:Int} (h0:0≤k) (h1:k < aY S):CkI V S k:=by
 unfold Cm at h
 cases hf:iO V S l
 ·rw[hf] at h;simp at h
 ·cases hb:sE V
  ·rw[hf,hb] at h;simp at h
  ·unfold iO at hf
   simp only[Bool.and_eq_true,Bool.not_eq_true'] at hf
   have hs:=dY.1 hf.2.2.1 k h0 h1
   unfold zC at hs
   simp only[Bool.or_eq_false_iff,Bool.not_eq_false'] at hs
   obtain⟨a,b, -⟩:=hs
   unfold sE at hb
   rw[Bool.not_eq_true'] at hb
   have go: ∀ i,nS V i=true→Fe (cK V i)=false:=fun i hi=>by
    unfold nS at hi
    simp only[Bool.and_eq_true,decide_eq_true_eq] at hi
    exact dY.1 hb i hi.1 hi.2
   exact⟨a,b,go _ a,go _ b⟩
theorem W4 {V S:List (Int×Int×Int)} {l:List Pt} (h:Cm V S l=0) {x y s:Int} (hc:Vq x y s=true) {k:Int} (h0:0≤k) (h1:k < aY S):metI x y s (cK V (cK S k).1).1 (cK V (cK S k).1).2.1 (cK V (cK S k).2.1).1 (cK V (cK S k).2.1).2.1=VM x y s V S k:=by
 have c:=Zn h h0 h1
 have ha:=Zl c.a c.oa
 have hb:=Zl c.b c.ob
 rw[VN (Vb hc) ha hb]
 unfold VM U3
 rw[hc,Po ha.is hb.is]
 rfl
structure FrI (x y s h:Int):Prop where
 c0:Vq x y h=true
 c1:Vq (x+h) y h=true
 c2:Vq x (y+h) h=true
 c3:Vq (x+h) (y+h) h=true
 e:s=h+h
 h0:1≤h
 h1:h≤32
 x0:0≤x
 y0:0≤y
 x1:x+s≤64
 y1:y+s≤64
theorem ZA {x y s h:Int} (hc:Vq x y s=true) (h1:s≠1) (hh:h=s / 2):FrI x y s h:=by
 have hd:=hc
 unfold Vq at hc
 simp only[Bool.and_eq_true,Bool.or_eq_true,decide_eq_true_eq] at hc
 obtain⟨⟨⟨⟨⟨⟨g1,g2⟩,g3⟩,g4⟩,g5⟩,g6⟩,g7⟩:=hc
 have mk: ∀ u v h:Int,(h=1∨h=2∨h=4∨h=8∨h=16∨h=32)→0≤u→0≤v→u≤64 - h→v≤64 - h→u % h=0→v % h=0→Vq u v h=true:=fun u v h p q1 q2 q3 q4 q5 q6=>by
  unfold Vq
  simp only[Bool.and_eq_true,Bool.or_eq_true,decide_eq_true_eq]
  exact⟨⟨⟨⟨⟨⟨by omega,q1⟩,q2⟩,q3⟩,q4⟩,q5⟩,q6⟩
 have key:(h=1∨h=2∨h=4∨h=8∨h=16∨h=32)∧s=h+h∧x % h=0∧y % h=0∧(x+h) % h=0∧(y+h) % h=0:=by
  rcases g1 with (((((e | e) | e) | e) | e) | e) | e
  ·exact absurd e h1
  ·rw[e] at g4 g5 g6 g7 hh ⊢
   have hv:h=1:=by omega
   rw[hv]
   exact⟨by omega,by omega,by omega,by omega,by omega,by omega⟩
  ·rw[e] at g4 g5 g6 g7 hh ⊢
   have hv:h=2:=by omega
   rw[hv]
   exact⟨by omega,by omega,by omega,by omega,by omega,by omega⟩
  ·rw[e] at g4 g5 g6 g7 hh ⊢
   have hv:h=4:=by omega
   rw[hv]
   exact⟨by omega,by omega,by omega,by omega,by omega,by omega⟩
  ·rw[e] at g4 g5 g6 g7 hh ⊢
   have hv:h=8:=by omega
   rw[hv]
   exact⟨by omega,by omega,by omega,by omega,by omega,by omega⟩
  ·rw[e] at g4 g5 g6 g7 hh ⊢
   have hv:h=16:=by omega
   rw[hv]
   exact⟨by omega,by omega,by omega,by omega,by omega,by omega⟩
  ·rw[e] at g4 g5 g6 g7 hh ⊢
   have hv:h=32:=by omega
   rw[hv]
   exact⟨by omega,by omega,by omega,by omega,by omega,by omega⟩
 obtain⟨k1,k2,k3,k4,k5,k6⟩:=key
 exact⟨mk _ _ _ k1 g2 g3 (by omega) (by omega) k3 k4,mk _ _ _ k1 (by omega) g3 (by omega) (by omega) k5 k4,mk _ _ _ k1 g2 (by omega) (by omega) (by omega) k3 k6,mk _ _ _ k1 (by omega) (by omega) (by omega) (by omega) k5 k6,k2,by omega,by omega,g2,g3,by omega,by omega⟩
theorem Xa {x y s h:Int} {a b:Pt} (hc:Vq x y s=true) (f:FrI x y s h) (ha:dJ a=true) (hb:dJ b=true):U3 x y s a b=(((U3 x y h a b||U3 (x+h) y h a b)||U3 x (y+h) h a b)||U3 (x+h) (y+h) h a b):=by
 rw[Bool.eq_iff_iff,Bool.or_eq_true,Bool.or_eq_true,Bool.or_eq_true,UX,UX,UX,UX,UX]
 simp only[hc,f.c0,f.c1,f.c2,f.c3,ha,hb,true_and,and_self]
 unfold YF Hit VD
 have es:x+s=x+h+h:=by have:=f.e;omega
 have et:y+s=y+h+h:=by have:=f.e;omega
 have h0:=f.h0
 rw[es,et]
 have l1:(x:Rat)≤((x+h:Int):Rat):=Rat.intCast_le_intCast.2 (by omega)
 have l2:((x+h:Int):Rat)≤((x+h+h:Int):Rat):=Rat.intCast_le_intCast.2 (by omega)
 have l3:(y:Rat)≤((y+h:Int):Rat):=Rat.intCast_le_intCast.2 (by omega)
 have l4:((y+h:Int):Rat)≤((y+h+h:Int):Rat):=Rat.intCast_le_intCast.2 (by omega)
 generalize (x:Rat)=X0 at *
 generalize ((x+h:Int):Rat)=X1 at *
 generalize ((x+h+h:Int):Rat)=X2 at *
 generalize (y:Rat)=Y0 at *
 generalize ((y+h:Int):Rat)=Y1 at *
 generalize ((y+h+h:Int):Rat)=Y2 at *
 clear f es et h0 ha hb hc
 constructor
 ·rintro⟨t,t0,t1,⟨h1,h2⟩,h3,h4⟩
  by_cases cx:px a+t*(px b - px a)≤X1 <;> by_cases cy:py a+t*(py b - py a)≤Y1
  ·exact .inl (.inl (.inl ⟨t,t0,t1,⟨h1,cx⟩,h3,cy⟩))
  ·exact .inl (.inr ⟨t,t0,t1,⟨h1,cx⟩,by grind,h4⟩)
  ·exact .inl (.inl (.inr ⟨t,t0,t1,⟨by grind,h2⟩,h3,cy⟩))
  ·exact .inr ⟨t,t0,t1,⟨by grind,h2⟩,by grind,h4⟩
 ·rintro(((⟨t,t0,t1,⟨h1,h2⟩,h3,h4⟩ | ⟨t,t0,t1,⟨h1,h2⟩,h3,h4⟩) | ⟨t,t0,t1,⟨h1,h2⟩,h3,h4⟩) | ⟨t,t0,t1,⟨h1,h2⟩,h3,h4⟩) <;> exact⟨t,t0,t1,⟨by grind,by grind⟩,by grind,by grind⟩
def XC (n:Int):Bool:=decide (n=1)||decide (n=2)||decide (n=4)||decide (n=8)||decide (n=16)||decide (n=32)||decide (n=64)
def V0 (lo hi n:Int):Bool:=decide (n < lo)||decide (n > hi)
def btI (lo hi:Int) (l:List Int):Bool:= !cY (aY l) fun k=>V0 lo hi (mU l k)
def WS (z:Int×Int×Int):Bool:= !XC z.2.2||(V0 0 64 z.1||V0 0 64 z.2.1)
def ZN (h c:Int) (Z:List (Int×Int×Int)):Bool:=XC h&&(!V0 1 4096 c&&(decide (aY Z≤4)&& !cY (aY Z) fun k=>WS (cK Z k)))
def Z3 (x y s p q:Int):Bool:=Vq x y s&&decide (x≤p)&&decide (p≤x+s)&&decide (y≤q)&&decide (q≤y+s)
def aaB (x y s:Int) (Z:List (Int×Int×Int)):Nat→List Int
 | 0=>[]
 | k+1=>if Z3 x y s (cK Z k).1 (cK Z k).2.1 then aaB x y s Z k++[(cK Z k).2.2] else aaB x y s Z k
def Z2 (a:Int) (l:List Int):Nat→Int
 | 0=>a
 | k+1=>aA.mn (Z2 a l k) (mU l k)
def ZO (h x y s:Int) (Z:List (Int×Int×Int)):Nat→Int
 | 0=>h
 | k+1=>if Z3 x y s (cK Z k).1 (cK Z k).2.1 then aA.mn (ZO h x y s Z k) (cK Z k).2.2 else ZO h x y s Z k
def Vu (h c:Int) (Z:List (Int×Int×Int)) (x y s:Int):Int:=if ZN h c Z&&Vq x y s then ZO h x y s Z Z.length else 0
def Vz (V S:List (Int×Int×Int)) (l:List Pt) (h c:Int) (Z:List (Int×Int×Int)) (x y s:Int):Bool:=
 decide (Cm V S l=0)&&(ZN h c Z&&(Vq x y s&&(decide (s > 1)&&(decide (s > Vu h c Z x y s)||decide (0 < (UP.all x y s V S l).length)))))
structure SI where
 side:Int→Bool
 bt:Int→Int→List Int→Bool
 ok:Int→Int→List (Int×Int×Int)→Bool
 lst:Int→List Int→Int
 lim:Int→Int→List (Int×Int×Int)→Int→Int→Int→Int
 must:List (Int×Int×Int)→List (Int×Int×Int)→List Pt→Int→Int→List (Int×Int×Int)→Int→Int→Int→Bool
def UW:SI where
 side:=XC
 bt:=btI
 ok:=ZN
 lst a l:=Z2 a l l.length
 lim:=Vu
 must:=Vz
theorem Vs (x y s:Int) (V S:List (Int×Int×Int)): ∀ k:Nat,(V4 x y s V S k=[]↔ ∀ j:Int,0≤j→j < k→VM x y s V S j=false)
 | 0=>⟨fun _ j h0 h1=>by omega,fun _=>rfl⟩
 | k+1=>by
  have ih:=Vs x y s V S k
  unfold V4
  by_cases h:VM x y s V S k=true
  ·rw[if_pos h]
   constructor
   ·intro g;simp at g
   ·intro g;have:=g k (by omega) (by omega);rw[this] at h;cases h
  ·rw[if_neg h,ih]
   have h:VM x y s V S k=false:=by simpa using h
   constructor
   ·intro g j h0 h1
    by_cases e:j=k
    ·subst e;exact h
    ·exact g j h0 (by omega)
   ·intro g j h0 h1;exact g j h0 (by omega)
theorem aaD (x y s:Int) (V S:List (Int×Int×Int)):cY (aY S) (VM x y s V S)=decide (0 < (V4 x y s V S S.length).length):=by
 have h:=Vs x y s V S S.length
 cases ha:cY (aY S) (VM x y s V S)
 ·have e:=h.2 (fun j h0 h1=>dY.1 ha j h0 h1)
  rw[e];rfl
 ·refine(decide_eq_true ?_).symm
  obtain⟨j,h0,h1,h2⟩:=mH.1 ha
  refine Nat.pos_of_ne_zero fun e=>?_
  have:=h.1 (List.eq_nil_of_length_eq_zero e) j h0 h1
  rw[this] at h2;cases h2
theorem Z1 {s:Int} (h:XC s=true):1≤s∧s≤64:=by
 simp only[XC,Bool.or_eq_true,decide_eq_true_eq] at h;omega
theorem Z5 (a:Int) (l:List Int) (z:Int): ∀ k,k≤l.length→Z2 a (l++[z]) k=Z2 a l k
 | 0,_=>rfl
 | k+1,h=>by
  unfold Z2
  rw[Z5 a l z k (by omega)]
  have:mU (l++[z]) k=mU l k:=by
   show((l++[z])[(k:Int).toNat]?).getD 0=(l[(k:Int).toNat]?).getD 0
   rw[Int.toNat_natCast,List.getElem?_append_left (by omega)]
  rw[this]
theorem aaG (a:Int) (l:List Int) (z:Int):Z2 a (l++[z]) (l++[z]).length=aA.mn (Z2 a l l.length) z:=by
 rw[List.length_append]
 show aA.mn (Z2 a (l++[z]) l.length) (mU (l++[z]) (l.length:Int))=_
 rw[Z5 a l z l.length (Nat.le_refl _)]
 have:mU (l++[z]) (l.length:Int)=z:=by
  show((l++[z])[((l.length:Nat):Int).toNat]?).getD 0=z
  rw[Int.toNat_natCast,List.getElem?_append_right (Nat.le_refl _)];simp
 rw[this]
theorem ZW (h x y s:Int) (Z:List (Int×Int×Int)): ∀ k,Z2 h (aaB x y s Z k) (aaB x y s Z k).length=ZO h x y s Z k
 | 0=>rfl
 | k+1=>by
  unfold aaB ZO
  split
  ·rw[aaG,ZW h x y s Z k]
  ·exact ZW h x y s Z k
theorem ZQ (x y s:Int) (Z:List (Int×Int×Int)): ∀ k,(aaB x y s Z k).length≤k
 | 0=>Nat.le_refl _
 | k+1=>by
  have:=ZQ x y s Z k
  unfold aaB
  split
  ·rw[List.length_append];simp;omega
  ·omega
theorem Z0 {h c:Int} {Z:List (Int×Int×Int)} (ho:ZN h c Z=true):1≤h∧h≤64∧aY Z≤4∧ ∀ k,0≤k→k < aY Z→WS (cK Z k)=false:=by
 unfold ZN at ho
 simp only[Bool.and_eq_true,Bool.not_eq_true',decide_eq_true_eq] at ho
 obtain⟨h1,h2,h3,h4⟩:=ho
 have:=Z1 h1
 exact⟨this.1,this.2,h3,dY.1 h4⟩
theorem abG (p q:Int):aA.mn p q=if q < p then q else p:=rfl
theorem ZP {h c x y s:Int} {Z:List (Int×Int×Int)} (ho:ZN h c Z=true): ∀ k:Nat,(k:Int)≤aY Z→1≤ZO h x y s Z k∧ZO h x y s Z k≤h
 | 0,_=>⟨(Z0 ho).1,Int.le_refl _⟩
 | k+1,hk=>by
  have ih:=ZP ho (x:=x) (y:=y) (s:=s) k (by omega)
  unfold ZO
  split
  ·have hb:=(Z0 ho).2.2.2 k (by omega) (by omega)
   have hz:XC (cK Z k).2.2=true:=by
    unfold WS at hb
    simp only[Bool.or_eq_false_iff,Bool.not_eq_false'] at hb
    exact hb.1
   have:=(Z1 hz).1
   rw[abG]
   split <;> omega
  ·exact ih
theorem aaF {h c:Int} {Z:List (Int×Int×Int)} {x y s:Int} :Vu h c Z x y s=0↔(ZN h c Z&&Vq x y s)=false:=by
 unfold Vu
 cases ho:ZN h c Z&&Vq x y s
 ·simp
 ·simp only[if_true]
  rw[Bool.and_eq_true] at ho
  have:=ZP ho.1 (x:=x) (y:=y) (s:=s) Z.length (Int.le_refl _)
  constructor
  ·intro h;omega
  ·intro h;cases h
theorem aaE {x y s h:Int} (hc:Vq x y s=true) (f:FrI x y s h) (p q:Int):Z3 x y s p q=(((Z3 x y h p q||Z3 (x+h) y h p q)||Z3 x (y+h) h p q)||Z3 (x+h) (y+h) h p q):=by
 unfold Z3
 rw[hc,f.c0,f.c1,f.c2,f.c3,Bool.eq_iff_iff]
 have e:=f.e
 have h0:=f.h0
 simp only[Bool.true_and,Bool.or_eq_true,Bool.and_eq_true,decide_eq_true_eq]
 omega
structure Mn4 (a a0 a1 a2 a3:Int):Prop where
 l0:a≤a0
 l1:a≤a1
 l2:a≤a2
 l3:a≤a3
 e:a=a0∨a=a1∨a=a2∨a=a3
theorem aaH {a a0 a1 a2 a3 z:Int} (i:Mn4 a a0 a1 a2 a3) (b0 b1 b2 b3:Bool):Mn4 (if(((b0||b1)||b2)||b3)=true then aA.mn a z else a) (if b0=true then aA.mn a0 z else a0) (if b1=true then aA.mn a1 z else a1) (if b2=true then aA.mn a2 z else a2) (if b3=true then aA.mn a3 z else a3):=by
 obtain⟨l0,l1,l2,l3,e⟩:=i
 have m: ∀ p:Int,(aA.mn p z=p∧p≤z)∨(aA.mn p z=z∧z≤p):=fun p=>by rw[abG];split <;> omega
 have ma:=m a
 have m0:=m a0
 have m1:=m a1
 have m2:=m a2
 have m3:=m a3
 cases b0 <;> cases b1 <;> cases b2 <;> cases b3 <;> simp only[Bool.or_true,Bool.true_or,Bool.or_false,Bool.false_or,Bool.false_eq_true,if_true,if_false] <;> refine⟨?_,?_,?_,?_,?_⟩ <;> omega
theorem ZR {x y s h:Int} (hc:Vq x y s=true) (f:FrI x y s h) (g:Int) (Z:List (Int×Int×Int)): ∀ k,Mn4 (ZO g x y s Z k) (ZO g x y h Z k) (ZO g (x+h) y h Z k) (ZO g x (y+h) h Z k) (ZO g (x+h) (y+h) h Z k)
 | 0=>⟨Int.le_refl _,Int.le_refl _,Int.le_refl _,Int.le_refl _, .inl rfl⟩
 | k+1=>by
  have ih:=ZR hc f g Z k
  unfold ZO
  rw[aaE hc f]
  exact aaH ih _ _ _ _
theorem ZY {x y s h:Int} (hc:Vq x y s=true) (f:FrI x y s h) (g c:Int) (Z:List (Int×Int×Int)):Vu g c Z x y s=aA.mn (aA.mn (aA.mn (aA.mn 64 (Vu g c Z x y h)) (Vu g c Z (x+h) y h)) (Vu g c Z x (y+h) h)) (Vu g c Z (x+h) (y+h) h):=by
 unfold Vu
 rw[hc,f.c0,f.c1,f.c2,f.c3,Bool.and_true]
 cases ho:ZN g c Z
 ·rfl
 ·simp only[if_true]
  have i:=ZR hc f g Z Z.length
  have b:=ZP ho (x:=x) (y:=y) (s:=s) Z.length (Int.le_refl _)
  have hg:=(Z0 ho).2.1
  obtain⟨l0,l1,l2,l3,e⟩:=i
  simp only[abG]
  split <;> split <;> split <;> split <;> omega
theorem aaC {x y s h:Int} (hc:Vq x y s=true) (f:FrI x y s h) {V S:List (Int×Int×Int)} {l:List Pt} (hk:Cm V S l=0) {u v:Int} (hu:u=x∨u=x+h) (hv:v=y∨v=y+h) (h1:0 < (UP.all u v h V S l).length):0 < (UP.all x y s V S l).length:=by
 have e: ∀ u v h:Int,(UP.all u v h V S l)=V4 u v h V S S.length:=fun u v h=>by
  show(if Cm V S l=0 then V4 u v h V S S.length else[])=_
  rw[if_pos hk]
 rw[e] at h1 ⊢
 refine Nat.pos_of_ne_zero fun hz=>?_
 have hn:=(Vs x y s V S S.length).1 (List.eq_nil_of_length_eq_zero hz)
 have:V4 u v h V S S.length=[]:=(Vs u v h V S S.length).2 fun j j0 j1=>by
  have hj:=hn j j0 j1
  have ck:=Zn hk j0 (show j < aY S from j1)
  unfold VM at hj ⊢
  rw[Xa hc f (Zl ck.a ck.oa).is (Zl ck.b ck.ob).is] at hj
  simp only[Bool.or_eq_false_iff] at hj
  obtain⟨⟨⟨q0,q1⟩,q2⟩,q3⟩:=hj
  rcases hu with rfl | rfl <;> rcases hv with rfl | rfl <;> assumption
 rw[this] at h1
 exact absurd h1 (by decide)
theorem Z6 {x y s h:Int} (hc:Vq x y s=true) (f:FrI x y s h) {V S:List (Int×Int×Int)} {l:List Pt} {g c:Int} {Z:List (Int×Int×Int)} {u v:Int} (hu:u=x∨u=x+h) (hv:v=y∨v=y+h) (hm:Vz V S l g c Z u v h=true):Vz V S l g c Z x y s=true:=by
 unfold Vz at hm ⊢
 simp only[Bool.and_eq_true,Bool.or_eq_true,decide_eq_true_eq] at hm ⊢
 obtain⟨hk,ho,hcc,h1,hr⟩:=hm
 refine⟨hk,ho,hc,by have:=f.e;omega,?_⟩
 rcases hr with hr | hr
 ·left
  have hl:=ZY hc f g c Z
  have e:=f.e
  have le:Vu g c Z x y s≤Vu g c Z u v h:=by
   rw[hl]
   have m: ∀ p q:Int,aA.mn p q≤p∧aA.mn p q≤q:=fun p q=>by rw[abG];split <;> omega
   have a1:=m (aA.mn (aA.mn (aA.mn 64 (Vu g c Z x y h)) (Vu g c Z (x+h) y h)) (Vu g c Z x (y+h) h)) (Vu g c Z (x+h) (y+h) h)
   have a2:=m (aA.mn (aA.mn 64 (Vu g c Z x y h)) (Vu g c Z (x+h) y h)) (Vu g c Z x (y+h) h)
   have a3:=m (aA.mn 64 (Vu g c Z x y h)) (Vu g c Z (x+h) y h)
   have a4:=m 64 (Vu g c Z x y h)
   rcases hu with rfl | rfl <;> rcases hv with rfl | rfl <;> omega
  omega
 ·right
  exact aaC hc f hk hu hv hr
def Wl:List (Int×Int×Int):=[(0,0,0),(8,0,0),(8,8,0),(0,8,0)]
def VZ:List (Int×Int×Int):=[(0,1,1),(1,2,2),(2,3,3),(3,0,4)]
theorem VA:Cm Wl VZ []=0:=by decide +kernel
theorem abH (a:Nat) (ha:a < 5):Vq 32 32 (2 ^ a)=true∧(UP.all 32 32 (2 ^ a) Wl VZ []).length=0:=by
 have key: ∀ a:Nat,a < 5→Vq 32 32 (2 ^ a)=true∧ ∀ j:Nat,j < 4→metI 32 32 (2 ^ a) (cK Wl (cK VZ j).1).1 (cK Wl (cK VZ j).1).2.1 (cK Wl (cK VZ j).2.1).1 (cK Wl (cK VZ j).2.1).2.1=false:=by decide +kernel
 obtain⟨h1,h2⟩:=key a ha
 refine⟨h1,?_⟩
 have e:UP.all 32 32 (2 ^ a) Wl VZ []=V4 32 32 (2 ^ a) Wl VZ VZ.length:=by
  show(if Cm Wl VZ []=0 then V4 32 32 (2 ^ a) Wl VZ VZ.length else[])=_
  rw[if_pos VA]
 rw[e,(Vs _ _ _ _ _ _).2 fun j j0 j1=>?_]
 ·rfl
 ·rw[← W4 VA h1 j0 j1]
  have j1:j < 4:=j1
  have:=h2 j.toNat (by omega)
  rw[Int.toNat_of_nonneg j0] at this
  exact this
theorem abB (a b:Nat) (ha:a < 5) (hb:b < 8):Vq (8 / 2 ^ a*2 ^ a) (b / 2 ^ a*2 ^ a) (2 ^ a)=true∧0 < (UP.all (8 / 2 ^ a*2 ^ a) (b / 2 ^ a*2 ^ a) (2 ^ a) Wl VZ []).length:=by
 have key: ∀ a:Nat,a < 5→ ∀ b:Nat,b < 8→Vq (8 / 2 ^ a*2 ^ a) (b / 2 ^ a*2 ^ a) (2 ^ a)=true∧(List.range 4).any (fun j=>metI (8 / 2 ^ a*2 ^ a) (b / 2 ^ a*2 ^ a) (2 ^ a) (cK Wl (cK VZ j).1).1 (cK Wl (cK VZ j).1).2.1 (cK Wl (cK VZ j).2.1).1 (cK Wl (cK VZ j).2.1).2.1)=true:=by decide +kernel
 obtain⟨h1,h2⟩:=key a ha b hb
 refine⟨h1,?_⟩
 obtain⟨j,hj,hm⟩:=List.any_eq_true.1 h2
 have hj:j < 4:=List.mem_range.1 hj
 have e: ∀ x y s,UP.all x y s Wl VZ []=V4 x y s Wl VZ VZ.length:=fun x y s=>by
  show(if Cm Wl VZ []=0 then V4 x y s Wl VZ VZ.length else[])=_
  rw[if_pos VA]
 rw[e]
 refine Nat.pos_of_ne_zero fun hz=>?_
 have hn:=(Vs _ _ _ _ _ _).1 (List.eq_nil_of_length_eq_zero hz) (j:Int) (by omega) (show(j:Int) < 4 by omega)
 rw[← W4 VA h1 (by omega) (show(j:Int) < 4 by omega)] at hn
 rw[hn] at hm;cases hm
end Go.Eng
