
import Derived.Test.YtdbmppedhaipoaaGreatSpecB
import Derived.Test.YtdbmppedhaipoaaGreatSpecB4
set_option linter.all false
set_option exponentiation.threshold 3000
set_option maxRecDepth 100000
set_option maxHeartbeats 2000000
namespace Go.Eng
structure XW (x y s:Int):Prop where
 s0:1≤s
 s1:s≤64
 x0:0≤x
 y0:0≤y
 x1:x+s≤64
 y1:y+s≤64
theorem Vb {x y s:Int} (h:Vq x y s=true):XW x y s:=by
 unfold Vq at h
 simp only[Bool.and_eq_true,Bool.or_eq_true,decide_eq_true_eq] at h
 obtain⟨⟨⟨⟨⟨⟨h1,h2⟩,h3⟩,h4⟩,h5⟩,_⟩,_⟩:=h
 exact⟨by omega,by omega,by omega,by omega,by omega,by omega⟩
theorem WU {z:Int} (h0:0≤z) (h1:z≤64):Sm 60 z:=by
 show z.natAbs < 2 ^ 60
 have:(2:Nat) ^ 60=1152921504606846976:=rfl
 omega
theorem WZ {x y s:Int} (h:XW x y s):AtP (coB x y s 0) x y∧AtP (coB x y s 1) (x+s) y∧AtP (coB x y s 2) (x+s) (y+s)∧AtP (coB x y s 3) x (y+s):=by
 obtain⟨h1,h2,h3,h4,h5,h6⟩:=h
 have e1:aD .add .i64 x s=x+s:=by show IntKind.i64.wrap _=_;rw[IntKind.wrap_i64];omega
 have e2:aD .add .i64 y s=y+s:=by show IntKind.i64.wrap _=_;rw[IntKind.wrap_i64];omega
 refine⟨atP (WU (by omega) (by omega)) (WU (by omega) (by omega)),?_,?_,?_⟩
 ·show AtP (bD.at_ (aD .add .i64 x s) y) _ _
  rw[e1];exact atP (WU (by omega) (by omega)) (WU (by omega) (by omega))
 ·show AtP (bD.at_ (aD .add .i64 x s) (aD .add .i64 y s)) _ _
  rw[e1,e2];exact atP (WU (by omega) (by omega)) (WU (by omega) (by omega))
 ·show AtP (bD.at_ x (aD .add .i64 y s)) _ _
  rw[e2];exact atP (WU (by omega) (by omega)) (WU (by omega) (by omega))
theorem Vw {a b:Rt} (ha:fT a 60) (hb:fT b 60):aO.cmp a b=cZ (bI a) (bI b):=((Cal.of ha).cmp (Cal.of hb) (by decide)).2
theorem WP (p q:Rat):(cZ p q < 0)↔p < q:=by
 rcases dH p q with ⟨h,e,_⟩ | ⟨h,e,_⟩ | ⟨h,e,_⟩ <;> rw[e] <;> constructor <;> intro hh <;> first | exact absurd hh (by decide) | exact h | decide | grind
theorem WO (p q:Rat):(cZ p q > 0)↔q < p:=by
 rcases dH p q with ⟨h,e,_⟩ | ⟨h,e,_⟩ | ⟨h,e,_⟩ <;> rw[e] <;> constructor <;> intro hh <;> first | exact absurd hh (by decide) | exact h | decide | grind
theorem Vm {a b lo hi:Rt} (ha:fT a 60) (hb:fT b 60) (hl:fT lo 60) (hh:fT hi 60):Vv a b lo hi=true↔(bI a < bI lo∧bI b < bI lo)∨(bI hi < bI a∧bI hi < bI b):=by
 unfold Vv
 rw[Vw ha hl,Vw hb hl,Vw ha hh,Vw hb hh,Bool.or_eq_true,Bool.and_eq_true,Bool.and_eq_true,decide_eq_true_eq,decide_eq_true_eq,decide_eq_true_eq,decide_eq_true_eq,WP,WP,WO,WO]
theorem VU {a b p:Pt} (ha:dJ a=true) (hb:dJ b=true) (hp:dJ p=true):bD.turn a b p=cZ (VK (px a) (py a) (px b - px a) (py b - py a) (px p) (py p)) 0:=kN (AL ha hb hp)
theorem XS (q:Rat):(cZ q 0=1)↔0 < q:=by
 rcases dH q 0 with ⟨h,e,_⟩ | ⟨h,e,_⟩ | ⟨h,e,_⟩ <;> rw[e] <;> constructor <;> intro hh <;> first | exact absurd hh (by decide) | exact h | decide | grind
theorem Xb (q:Rat):(cZ q 0= -1)↔q < 0:=by
 rcases dH q 0 with ⟨h,e,_⟩ | ⟨h,e,_⟩ | ⟨h,e,_⟩ <;> rw[e] <;> constructor <;> intro hh <;> first | exact absurd hh (by decide) | exact h | decide | grind
def Hit (ax ay bx by_ X0 X2 Y0 Y2:Rat):Prop:= ∃ t:Rat,0≤t∧t≤1∧VD (ax+t*(bx - ax)) (ay+t*(by_ - ay)) X0 X2 Y0 Y2
theorem WC {x y s:Int} {a b:Pt} (h:XW x y s) (ha:dJ a=true) (hb:dJ b=true):XX x y s a b=true↔Hit (px a) (py a) (px b) (py b) (x:Rat) ((x+s:Int):Rat) (y:Rat) ((y+s:Int):Rat):=by
 obtain⟨c0,c1,c2,c3⟩:=WZ h
 have hs:=h.s0
 have hX:(x:Rat) < ((x+s:Int):Rat):=Rat.intCast_lt_intCast.2 (by omega)
 have hY:(y:Rat) < ((y+s:Int):Rat):=Rat.intCast_lt_intCast.2 (by omega)
 have Ia:=e9 ha
 have Ib:=e9 hb
 have I0:=e9 c0.is
 have I2:=e9 c2.is
 unfold XX
 rw[Bool.and_eq_true,Bool.not_eq_true',Bool.not_eq_true', ← Bool.not_eq_true, ← Bool.not_eq_true,Bool.or_eq_true,Vm Ia.x Ib.x I0.x I2.x,Vm Ia.y Ib.y I0.y I2.y]
 unfold Wg VC
 rw[VU ha hb c0.is,VU ha hb c1.is,VU ha hb c2.is,VU ha hb c3.is]
 simp only[Bool.or_eq_true,Bool.and_eq_true,decide_eq_true_eq,XS,Xb]
 rw[c0.x,c0.y,c1.x,c1.y,c2.x,c2.y,c3.x,c3.y]
 have r0:bI (coB x y s 0).X=(x:Rat):=c0.x
 have r1:bI (coB x y s 0).Y=(y:Rat):=c0.y
 have r2:bI (coB x y s 2).X=((x+s:Int):Rat):=c2.x
 have r3:bI (coB x y s 2).Y=((y+s:Int):Rat):=c2.y
 rw[r0,r1,r2,r3]
 show ¬ (((px a < _∧px b < _)∨(_ < px a∧_ < px b))∨((py a < _∧py b < _)∨(_ < py a∧_ < py b)))∧_↔_
 clear r0 r1 r2 r3 I0 I2 Ia Ib c0 c1 c2 c3
 generalize (x:Rat)=X0 at *
 generalize (y:Rat)=Y0 at *
 generalize ((x+s:Int):Rat)=X2 at *
 generalize ((y+s:Int):Rat)=Y2 at *
 generalize px a=ax
 generalize py a=ay
 obtain⟨dx,hdx⟩:=exE (px b - ax)
 obtain⟨dy,hdy⟩:=exE (py b - ay)
 have ebx:px b=ax+dx:=by grind
 have eby:py b=ay+dy:=by grind
 unfold Hit
 rw[ebx,eby]
 have e1:ax+dx - ax=dx:=by grind
 have e2:ay+dy - ay=dy:=by grind
 rw[e1,e2]
 constructor
 ·rintro⟨h1,h2⟩
  rcases sat (ax:=ax) (ay:=ay) (dx:=dx) (dy:=dy) hX hY (fun g=>h1 (.inl (.inl g))) (fun g=>h1 (.inl (.inr g))) (fun g=>h1 (.inr (.inl g))) (fun g=>h1 (.inr (.inr g))) (fun g=>h2 (.inl g)) (fun g=>h2 (.inr g)) with g | ⟨t,t0,t1,g⟩
  ·exact⟨0,by grind,by grind,by rw[Rat.zero_mul,Rat.zero_mul,Rat.add_zero,Rat.add_zero];exact g⟩
  ·refine⟨t,t0,t1,?_⟩
   rcases g with ⟨g1,g2,g3⟩ | ⟨g1,g2,g3⟩
   ·exact⟨by rcases g1 with g1 | g1 <;> rw[g1] <;> grind,g2,g3⟩
   ·exact⟨⟨g2,g3⟩,by rcases g1 with g1 | g1 <;> rw[g1] <;> grind⟩
 ·rintro⟨t,t0,t1,g⟩
  obtain⟨k1,k2,k3,k4⟩:=VX t0 t1 g
  exact⟨by rintro((g1 | g1) | (g1 | g1)) <;> first | exact k1 g1 | exact k2 g1 | exact k3 g1 | exact k4 g1,by rintro(g1 | g1) <;> first | exact V8 g g1 | exact Wx g g1⟩
theorem WK {ax ay bx by_ X0 X2 Y0 Y2:Rat} (h:Hit ax ay bx by_ X0 X2 Y0 Y2):Hit bx by_ ax ay X0 X2 Y0 Y2:=by
 obtain⟨t,t0,t1,g⟩:=h
 refine⟨1 - t,by grind,by grind,?_⟩
 have e1:bx+(1 - t)*(ax - bx)=ax+t*(bx - ax):=by grind
 have e2:by_+(1 - t)*(ay - by_)=ay+t*(by_ - ay):=by grind
 rw[e1,e2];exact g
theorem X4 {x y s:Int} {p:Pt} (h:XW x y s) (hp:dJ p=true):inB x y s p=true↔VD (px p) (py p) (x:Rat) ((x+s:Int):Rat) (y:Rat) ((y+s:Int):Rat):=by
 obtain⟨c0,c1,c2,c3⟩:=WZ h
 have Ip:=e9 hp
 have I0:=e9 c0.is
 have I2:=e9 c2.is
 unfold inB VD
 have r0:bI (coB x y s 0).X=(x:Rat):=c0.x
 have r1:bI (coB x y s 0).Y=(y:Rat):=c0.y
 have r2:bI (coB x y s 2).X=((x+s:Int):Rat):=c2.x
 have r3:bI (coB x y s 2).Y=((y+s:Int):Rat):=c2.y
 have ge: ∀ p q:Rat,cZ p q ≥ 0↔q≤p:=fun p q=>by
  have:=WP p q
  constructor
  ·intro h;exact Rat.not_lt.1 fun g=>by have:=this.2 g;omega
  ·intro h;by_cases g:cZ p q < 0
   ·exact absurd (this.1 g) (Rat.not_lt.2 h)
   ·omega
 have le: ∀ p q:Rat,cZ p q≤0↔p≤q:=fun p q=>by
  have:=WO p q
  constructor
  ·intro h;exact Rat.not_lt.1 fun g=>by have:=this.2 g;omega
  ·intro h;by_cases g:cZ p q > 0
   ·exact absurd (this.1 g) (Rat.not_lt.2 h)
   ·omega
 rw[Vw Ip.x I0.x,Vw Ip.x I2.x,Vw Ip.y I0.y,Vw Ip.y I2.y,r0,r1,r2,r3,Bool.and_eq_true,Bool.and_eq_true,Bool.and_eq_true,decide_eq_true_eq,decide_eq_true_eq,decide_eq_true_eq,decide_eq_true_eq,ge,ge,le,le]
 constructor
 ·rintro⟨h1,h2,h3,h4⟩;exact⟨⟨h1,h2⟩,h3,h4⟩
 ·rintro⟨⟨h1,h2⟩,h3,h4⟩;exact⟨h1,h2,h3,h4⟩
theorem WR {x y s:Int} {a b:Pt} (h:XW x y s) (ha:dJ a=true) (hb:dJ b=true):(YH x y s a b||inB x y s a)=true↔Hit (px a) (py a) (px b) (py b) (x:Rat) ((x+s:Int):Rat) (y:Rat) ((y+s:Int):Rat):=by
 obtain⟨c0,c1,c2,c3⟩:=WZ h
 have hs:=h.s0
 have hX:(x:Rat) < ((x+s:Int):Rat):=Rat.intCast_lt_intCast.2 (by omega)
 have hY:(y:Rat) < ((y+s:Int):Rat):=Rat.intCast_lt_intCast.2 (by omega)
 have mo: ∀ a b c d:Pt,dJ a=true→dJ b=true→dJ c=true→dJ d=true→kM.meet a b c d=lL a b c d:=fun a b c d h1 h2 h3 h4=>by
  show(if dX [a,b,c,d] then lL a b c d else 0)=_
  rw[if_pos]
  unfold dX
  simp only[List.all_cons,List.all_nil,h1,h2,h3,h4,Bool.and_true]
 unfold YH
 rw[Bool.or_eq_true,X4 h ha,mo _ _ _ _ ha hb c0.is c1.is,mo _ _ _ _ ha hb c1.is c2.is,mo _ _ _ _ ha hb c2.is c3.is,mo _ _ _ _ ha hb c3.is c0.is,Bool.or_eq_true,Bool.or_eq_true,Bool.or_eq_true,decide_eq_true_eq,decide_eq_true_eq,decide_eq_true_eq,decide_eq_true_eq]
 show((0 < _∨0 < _∨0 < _∨0 < _)∨_)↔_
 rw[WA hX c0.x c0.y c1.x c1.y,Xw hY c1.x c1.y c2.x c2.y, ← Wk,WA hX c3.x c3.y c2.x c2.y, ← Wk,Xw hY c0.x c0.y c3.x c3.y]
 clear mo c0 c1 c2 c3
 generalize (x:Rat)=X0 at *
 generalize (y:Rat)=Y0 at *
 generalize ((x+s:Int):Rat)=X2 at *
 generalize ((y+s:Int):Rat)=Y2 at *
 unfold WV Hit
 constructor
 ·rintro((⟨t,t0,t1,g1,g2,g3⟩ | ⟨t,t0,t1,g1,g2,g3⟩ | ⟨t,t0,t1,g1,g2,g3⟩ | ⟨t,t0,t1,g1,g2,g3⟩) | g)
  ·exact⟨t,t0,t1,⟨g2,g3⟩,by rw[g1];grind⟩
  ·exact⟨t,t0,t1,by rw[g1];grind,⟨g2,g3⟩⟩
  ·exact⟨t,t0,t1,⟨g2,g3⟩,by rw[g1];grind⟩
  ·exact⟨t,t0,t1,by rw[g1];grind,⟨g2,g3⟩⟩
  ·exact⟨0,by grind,by grind,by rw[Rat.zero_mul,Rat.zero_mul,Rat.add_zero,Rat.add_zero];exact g⟩
 ·rintro⟨t,t0,t1,g⟩
  obtain⟨k1,k2,k3,k4⟩:=VX t0 t1 g
  have p1:=V8 g
  have p2:=Wx g
  have eb:px a+(px b - px a)=px b:=by grind
  rcases sat (ax:=px a) (ay:=py a) (dx:=px b - px a) (dy:=py b - py a) hX hY k1 k2 k3 k4 p1 p2 with g | ⟨u,u0,u1,g⟩
  ·exact .inr g
  ·refine .inl ?_
   rcases g with ⟨g1 | g1,g2,g3⟩ | ⟨g1 | g1,g2,g3⟩
   ·exact .inr (.inr (.inr ⟨u,u0,u1,g1,g2,g3⟩))
   ·exact .inr (.inl ⟨u,u0,u1,g1,g2,g3⟩)
   ·exact .inl ⟨u,u0,u1,g1,g2,g3⟩
   ·exact .inr (.inr (.inl ⟨u,u0,u1,g1,g2,g3⟩))
theorem Wf {a b:Pt} :dX [a,b]=true↔dJ a=true∧dJ b=true:=by
 unfold dX
 simp only[List.all_cons,List.all_nil,Bool.and_true,Bool.and_eq_true]
def YF (x y s:Int) (a b:Pt):Prop:=Hit (px a) (py a) (px b) (py b) (x:Rat) ((x+s:Int):Rat) (y:Rat) ((y+s:Int):Rat)
theorem UX {x y s:Int} {a b:Pt} :U3 x y s a b=true↔Vq x y s=true∧(dJ a=true∧dJ b=true)∧YF x y s a b:=by
 unfold U3
 rw[Bool.and_eq_true,Bool.and_eq_true,Wf]
 constructor
 ·rintro⟨h1,h2,h3⟩;exact⟨h1,h2,(WC (Vb h1) h2.1 h2.2).1 h3⟩
 ·rintro⟨h1,h2,h3⟩;exact⟨h1,h2,(WC (Vb h1) h2.1 h2.2).2 h3⟩
theorem Xc {x y s:Int} {a b:Pt} :Yv x y s a b=true↔Vq x y s=true∧(dJ a=true∧dJ b=true)∧YF x y s a b:=by
 unfold Yv
 rw[Bool.and_eq_true,Bool.and_eq_true,Wf]
 constructor
 ·rintro⟨h1,h2,h3⟩;exact⟨h1,h2,(WR (Vb h1) h2.1 h2.2).1 h3⟩
 ·rintro⟨h1,h2,h3⟩;exact⟨h1,h2,(WR (Vb h1) h2.1 h2.2).2 h3⟩
theorem XR (x y s:Int) (a b:Pt):U3 x y s a b=Yv x y s a b:=by rw[Bool.eq_iff_iff,UX,Xc]
theorem WN (x y s:Int) (a b:Pt):U3 x y s a b=U3 x y s b a:=by
 rw[Bool.eq_iff_iff,UX,UX]
 constructor
 ·rintro⟨h1,h2,h3⟩;exact⟨h1,⟨h2.2,h2.1⟩,WK h3⟩
 ·rintro⟨h1,h2,h3⟩;exact⟨h1,⟨h2.2,h2.1⟩,WK h3⟩
end Go.Eng
