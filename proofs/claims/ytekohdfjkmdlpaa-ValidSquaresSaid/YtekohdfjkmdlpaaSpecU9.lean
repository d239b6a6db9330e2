
import Derived.Test.YtekohdfjkmdlpaaSpecU8
set_option linter.all false
set_option exponentiation.threshold 3000
namespace Go.Eng
set_option maxRecDepth 100000
set_option maxHeartbeats 4000000
def b8 (a b c p q r:Int):List (Int×Int×Int):=[(a,b,0),(a+c,b,0),(a+c,b+c,0),(a,b+c,0),(p,q,0),(p+r,q,0),(p+r,q+r,0),(p,q+r,0)]
def t8:List (Int×Int×Int):=[(0,1,1),(1,2,2),(2,3,3),(3,0,4),(4,5,0),(5,6,0),(6,7,0),(7,4,0)]
structure Two (a b c p q r:Int):Prop where
 s:L4 a b c
 t:L4 p q r
structure B8 (V:List (Int×Int×Int)) (a b c p q r:Int):Prop where
 x0:axV V 0=a
 x1:axV V 1=a+c
 x2:axV V 2=a+c
 x3:axV V 3=a
 x4:axV V 4=p
 x5:axV V 5=p+r
 x6:axV V 6=p+r
 x7:axV V 7=p
 y0:ayV V 0=b
 y1:ayV V 1=b
 y2:ayV V 2=b+c
 y3:ayV V 3=b+c
 y4:ayV V 4=q
 y5:ayV V 5=q
 y6:ayV V 6=q+r
 y7:ayV V 7=q+r
theorem U8 (a b c p q r:Int):B8 (b8 a b c p q r) a b c p q r:=⟨rfl,rfl,rfl,rfl,rfl,rfl,rfl,rfl,rfl,rfl,rfl,rfl,rfl,rfl,rfl,rfl⟩
theorem UR {a b c p q r:Int} (h:Two a b c p q r):sE (b8 a b c p q r)=true:=by
 obtain⟨⟨h1,h2,h3,h4,h5,h6⟩,⟨g1,g2,g3,g4,g5,g6⟩⟩:=h
 refine kT fun v hv=>?_
 unfold b8 at hv
 simp only[List.mem_cons,List.not_mem_nil,or_false] at hv
 rcases hv with rfl | rfl | rfl | rfl | rfl | rfl | rfl | rfl <;> simp only <;> omega
theorem Ve {j:Int} (h0:0≤j) (h1:j < 8):j=0∨j=1∨j=2∨j=3∨j=4∨j=5∨j=6∨j=7:=by omega
def UN (a b c p q r:Int):Prop:=(p > a+c∨p+r < a∨q > b+c∨q+r < b)∨((p > a∧q > b∧p+r < a+c∧q+r < b+c)∨(a > p∧b > q∧a+c < p+r∧b+c < q+r))
theorem Vd {a b c p q r:Int} (h:Two a b c p q r) (hf:UN a b c p q r):yY (b8 a b c p q r)=false:=by
 obtain⟨⟨h1,h2,h3,h4,h5,h6⟩,⟨g1,g2,g3,g4,g5,g6⟩⟩:=h
 have k:=U8 a b c p q r
 unfold UN at hf
 refine Pl fun i j e0 e1 e2=>?_
 have e2:i < 8:=e2
 rcases Ve (by omega) e2 with rfl | rfl | rfl | rfl | rfl | rfl | rfl | rfl <;> rcases Ve e0 (by omega) with rfl | rfl | rfl | rfl | rfl | rfl | rfl | rfl <;>
  first | (exfalso;clear k hf;omega) | (simp only[k.x0,k.x1,k.x2,k.x3,k.x4,k.x5,k.x6,k.x7,k.y0,k.y1,k.y2,k.y3,k.y4,k.y5,k.y6,k.y7,true_and,and_true] <;> (clear k;omega))
theorem U6 {a b c p q r:Int} (h:Two a b c p q r) {i j u v w x m k:Int} (hi:cK t8 i=(u,v,m)) (hj:cK t8 j=(w,x,k)) (f1:flat (b8 a b c p q r) u v) (f2:flat (b8 a b c p q r) w x) (n1:w≠u) (n2:w≠v) (n3:x≠u) (n4:x≠v):j4 (b8 a b c p q r) t8 i j=true↔TO (b8 a b c p q r) u v w x:=
 u4 (M2 (UR h)) hi hj f1 f2 n1 n2 n3 n4
structure Vf (V:List (Int×Int×Int)):Prop where
 f0:flat V 0 1
 f1:flat V 1 2
 f2:flat V 2 3
 f3:flat V 3 0
 f4:flat V 4 5
 f5:flat V 5 6
 f6:flat V 6 7
 f7:flat V 7 4
theorem U5 {a b c p q r:Int} (h:Two a b c p q r):Vf (b8 a b c p q r):=by
 obtain⟨⟨h1,h2,h3,h4,h5,h6⟩,⟨g1,g2,g3,g4,g5,g6⟩⟩:=h
 have k:=U8 a b c p q r
 constructor <;> unfold flat <;> simp only[k.x0,k.x1,k.x2,k.x3,k.x4,k.x5,k.x6,k.x7,k.y0,k.y1,k.y2,k.y3,k.y4,k.y5,k.y6,k.y7,true_and,and_true] <;> clear k <;> omega
theorem Va {a b c p q r:Int} (h:Two a b c p q r) (hf:UN a b c p q r):tZ (b8 a b c p q r) t8=false:=by
 have hb:=M2 (UR h)
 have fl:=U5 h
 have k:=U8 a b c p q r
 have h':=h
 obtain⟨⟨h1,h2,h3,h4,h5,h6⟩,⟨g1,g2,g3,g4,g5,g6⟩⟩:=h'
 unfold UN at hf
 have L: ∀ i j a b c m n,cK t8 i=(a,b,m)→cK t8 j=(c,a,n)→A8 (b8 _ _ _ _ _ _) a b c a→c≠a→c≠b→a≠b→j4 (b8 _ _ _ _ _ _) t8 i j=false:=fun i j a b c m n e1 e2 e3 e4 e5 e6=>m9 hb e1 e2 e3 e4 e5 e6
 have R: ∀ i j a b d m n,cK t8 i=(a,b,m)→cK t8 j=(b,d,n)→A8 (b8 _ _ _ _ _ _) a b b d→d≠a→d≠b→a≠b→j4 (b8 _ _ _ _ _ _) t8 i j=false:=fun i j a b c m n e1 e2 e3 e4 e5 e6=>TP hb e1 e2 e3 e4 e5 e6
 have N: ∀ i j u v w x m n,cK t8 i=(u,v,m)→cK t8 j=(w,x,n)→flat (b8 a b c p q r) u v→flat (b8 a b c p q r) w x→w≠u→w≠v→x≠u→x≠v→ ¬ TO (b8 a b c p q r) u v w x→j4 (b8 a b c p q r) t8 i j=false:=fun i j u v w x m n e1 e2 f1 f2 n1 n2 n3 n4 hn=>by
  rw[← Bool.not_eq_true,U6 h e1 e2 f1 f2 n1 n2 n3 n4];exact hn
 refine A7 fun i j e0 e1 e2=>?_
 have e2:i < 8:=e2
 rcases Ve (by omega) e2 with rfl | rfl | rfl | rfl | rfl | rfl | rfl | rfl <;> rcases Ve e0 (by omega) with rfl | rfl | rfl | rfl | rfl | rfl | rfl | rfl <;>
  first
  |(exfalso;clear k hf L R N fl hb h;omega)
  |(refine N _ _ _ _ _ _ _ _ rfl rfl (by first | exact fl.f0 | exact fl.f1 | exact fl.f2 | exact fl.f3 | exact fl.f4 | exact fl.f5 | exact fl.f6 | exact fl.f7) (by first | exact fl.f0 | exact fl.f1 | exact fl.f2 | exact fl.f3 | exact fl.f4 | exact fl.f5 | exact fl.f6 | exact fl.f7) (by decide) (by decide) (by decide) (by decide) ?_;unfold TO;simp only[k.x0,k.x1,k.x2,k.x3,k.x4,k.x5,k.x6,k.x7,k.y0,k.y1,k.y2,k.y3,k.y4,k.y5,k.y6,k.y7,true_and,and_true] <;> (clear k L R N fl hb h;omega))
  |(refine L _ _ _ _ _ _ _ rfl rfl ?_ (by decide) (by decide) (by decide);unfold A8;simp only[k.x0,k.x1,k.x2,k.x3,k.x4,k.x5,k.x6,k.x7,k.y0,k.y1,k.y2,k.y3,k.y4,k.y5,k.y6,k.y7,true_and,and_true] <;> (clear k L R N fl hb h;omega))
  |(refine R _ _ _ _ _ _ _ rfl rfl ?_ (by decide) (by decide) (by decide);unfold A8;simp only[k.x0,k.x1,k.x2,k.x3,k.x4,k.x5,k.x6,k.x7,k.y0,k.y1,k.y2,k.y3,k.y4,k.y5,k.y6,k.y7,true_and,and_true] <;> (clear k L R N fl hb h;omega))
theorem Vc {a b c p q r:Int} (h:Two a b c p q r) (hf: ¬ UN a b c p q r):tZ (b8 a b c p q r) t8=true:=by
 have fl:=U5 h
 have k:=U8 a b c p q r
 have h':=h
 obtain⟨⟨h1,h2,h3,h4,h5,h6⟩,⟨g1,g2,g3,g4,g5,g6⟩⟩:=h'
 unfold UN at hf
 have hf1: ¬ (p > a+c∨p+r < a∨q > b+c∨q+r < b):=fun e=>hf (.inl e)
 have hf2: ¬ (p > a∧q > b∧p+r < a+c∧q+r < b+c):=fun e=>hf (.inr (.inl e))
 have hf3: ¬ (a > p∧b > q∧a+c < p+r∧b+c < q+r):=fun e=>hf (.inr (.inr e))
 have P: ∀ i j u v w x m n,cK t8 i=(u,v,m)→cK t8 j=(w,x,n)→flat (b8 a b c p q r) u v→flat (b8 a b c p q r) w x→w≠u→w≠v→x≠u→x≠v→0≤j→j < i→i < 8→TO (b8 a b c p q r) u v w x→tZ (b8 a b c p q r) t8=true:=fun i j u v w x m n e1 e2 f1 f2 n1 n2 n3 n4 j0 j1 i1 hn=>
  SO i j j0 j1 i1 ((U6 h e1 e2 f1 f2 n1 n2 n3 n4).2 hn)
 clear hf h
 by_cases c1:a≤p
 ·by_cases c2:q≤b∧b≤q+r
  ·refine P 7 0 _ _ _ _ _ _ rfl rfl fl.f7 fl.f0 (by decide) (by decide) (by decide) (by decide) (by decide) (by decide) (by decide) ?_
   unfold TO;simp only[k.x0,k.x1,k.x2,k.x3,k.x4,k.x5,k.x6,k.x7,k.y0,k.y1,k.y2,k.y3,k.y4,k.y5,k.y6,k.y7,true_and,and_true] <;> (clear P k fl;omega)
  by_cases c3:q≤b+c∧b+c≤q+r
  ·refine P 7 2 _ _ _ _ _ _ rfl rfl fl.f7 fl.f2 (by decide) (by decide) (by decide) (by decide) (by decide) (by decide) (by decide) ?_
   unfold TO;simp only[k.x0,k.x1,k.x2,k.x3,k.x4,k.x5,k.x6,k.x7,k.y0,k.y1,k.y2,k.y3,k.y4,k.y5,k.y6,k.y7,true_and,and_true] <;> (clear P k fl;omega)
  by_cases c4:p+r ≥ a+c
  ·refine P 4 1 _ _ _ _ _ _ rfl rfl fl.f4 fl.f1 (by decide) (by decide) (by decide) (by decide) (by decide) (by decide) (by decide) ?_
   unfold TO;simp only[k.x0,k.x1,k.x2,k.x3,k.x4,k.x5,k.x6,k.x7,k.y0,k.y1,k.y2,k.y3,k.y4,k.y5,k.y6,k.y7,true_and,and_true] <;> (clear P k fl;omega)
  ·refine P 4 3 _ _ _ _ _ _ rfl rfl fl.f4 fl.f3 (by decide) (by decide) (by decide) (by decide) (by decide) (by decide) (by decide) ?_
   unfold TO;simp only[k.x0,k.x1,k.x2,k.x3,k.x4,k.x5,k.x6,k.x7,k.y0,k.y1,k.y2,k.y3,k.y4,k.y5,k.y6,k.y7,true_and,and_true] <;> (clear P k fl;omega)
 ·by_cases c2:b≤q∧q≤b+c
  ·refine P 4 3 _ _ _ _ _ _ rfl rfl fl.f4 fl.f3 (by decide) (by decide) (by decide) (by decide) (by decide) (by decide) (by decide) ?_
   unfold TO;simp only[k.x0,k.x1,k.x2,k.x3,k.x4,k.x5,k.x6,k.x7,k.y0,k.y1,k.y2,k.y3,k.y4,k.y5,k.y6,k.y7,true_and,and_true] <;> (clear P k fl;omega)
  by_cases c3:b≤q+r∧q+r≤b+c
  ·refine P 6 3 _ _ _ _ _ _ rfl rfl fl.f6 fl.f3 (by decide) (by decide) (by decide) (by decide) (by decide) (by decide) (by decide) ?_
   unfold TO;simp only[k.x0,k.x1,k.x2,k.x3,k.x4,k.x5,k.x6,k.x7,k.y0,k.y1,k.y2,k.y3,k.y4,k.y5,k.y6,k.y7,true_and,and_true] <;> (clear P k fl;omega)
  ·refine P 5 0 _ _ _ _ _ _ rfl rfl fl.f5 fl.f0 (by decide) (by decide) (by decide) (by decide) (by decide) (by decide) (by decide) ?_
   unfold TO;simp only[k.x0,k.x1,k.x2,k.x3,k.x4,k.x5,k.x6,k.x7,k.y0,k.y1,k.y2,k.y3,k.y4,k.y5,k.y6,k.y7,true_and,and_true] <;> (clear P k fl;omega)
theorem U9 {a b c p q r:Int} (h:Two a b c p q r):(UN a b c p q r→Cm (b8 a b c p q r) t8 []=0)∧(¬ UN a b c p q r→Cm (b8 a b c p q r) t8 []=14∨Cm (b8 a b c p q r) t8 []=16):=by
 have e:=eM (V:=b8 a b c p q r) (S:=t8) (by kernel_rfl) (UR h)
 have hl:uQ (b8 a b c p q r) t8=true:=by kernel_rfl
 rw[e,hl]
 constructor
 ·intro hf
  rw[Vd h hf,Va h hf];rfl
 ·intro hf
  rw[Vc h hf]
  cases yY (b8 a b c p q r)
  ·exact .inr rfl
  ·exact .inl rfl
end Go.Eng

