
import Derived.Test.YtekohdfjkmdlpaaSpecU7
set_option linter.all false
set_option exponentiation.threshold 3000
namespace Go.Eng
set_option maxRecDepth 100000
set_option maxHeartbeats 2000000
theorem TQ {V:List (Int×Int×Int)} {j:Int} (h0:0≤j) (h1:j < aY V):cK V j∈V:=by
 have hj:j.toNat < V.length:=by unfold aY at h1;omega
 have:cK V j=V[j.toNat]:=by
  show(V[j.toNat]?).getD _=_
  rw[List.getElem?_eq_getElem hj];rfl
 rw[this];exact List.getElem_mem hj
theorem kT {V:List (Int×Int×Int)} (h: ∀ v,v∈V→(0≤v.1∧v.1≤64)∧(0≤v.2.1∧v.2.1≤64)):sE V=true:=by
 unfold sE
 rw[Bool.not_eq_true',dY]
 intro j h0 h1
 obtain⟨⟨a,b⟩,c,d⟩:=h _ (TQ h0 h1)
 unfold Fe
 rw[decide_eq_true a,decide_eq_true b,decide_eq_true c,decide_eq_true d];rfl
def bx (x y n:Int):List (Int×Int×Int):=[(x,y,0),(x+n,y,0),(x+n,y+n,0),(x,y+n,0)]
def bs:List (Int×Int×Int):=[(0,1,1),(1,2,2),(2,3,3),(3,0,4)]
theorem T1 {j:Int} (h0:0≤j) (h1:j < 4):j=0∨j=1∨j=2∨j=3:=by omega
structure L4 (x y n:Int):Prop where
 x0:0≤x
 x1:x≤29
 y0:0≤y
 y1:y≤29
 n0:1≤n
 n1:n≤30
theorem eM {V S:List (Int×Int×Int)} (hf:iO V S []=true) (hb:sE V=true):Cm V S []=if yY V then 14 else if !uQ V S then 15 else if tZ V S then 16 else 0:=by
 unfold Cm
 rw[hf,hb]
 have:(cY (aY ([]:List Pt)) fun k=> !qQ V S (pC [] k))=false:=rfl
 rw[this];rfl
theorem kD {x y n:Int} (h:L4 x y n):sE (bx x y n)=true:=by
 obtain⟨h1,h2,h3,h4,h5,h6⟩:=h
 refine kT fun v hv=>?_
 unfold bx at hv
 simp only[List.mem_cons,List.not_mem_nil,or_false] at hv
 rcases hv with rfl | rfl | rfl | rfl <;> refine⟨⟨?_,?_⟩,?_,?_⟩ <;> show(_:Int)≤_ <;> simp only <;> omega
theorem Pl {V:List (Int×Int×Int)} (h: ∀ i j,0≤j→j < i→i < aY V→ ¬ (axV V i=axV V j∧ayV V i=ayV V j)):yY V=false:=by
 unfold yY
 rw[dY]
 intro i h0 h1
 rw[dY]
 intro j g0 g1
 have:=h i j g0 g1 h1
 unfold vE
 rw[Bool.and_eq_false_iff,decide_eq_false_iff_not,decide_eq_false_iff_not]
 exact Classical.not_and_iff_not_or_not.1 this
theorem TS {V:List (Int×Int×Int)} (i j:Int) (h0:0≤j) (h1:j < i) (h2:i < aY V) (h:axV V i=axV V j∧ayV V i=ayV V j):yY V=true:=by
 unfold yY
 refine mH.2 ⟨i,by omega,h2,mH.2 ⟨j,h0,h1,?_⟩⟩
 unfold vE
 rw[decide_eq_true h.1,decide_eq_true h.2];rfl
theorem kW {x y n:Int} (h:L4 x y n):yY (bx x y n)=false:=by
 obtain⟨h1,h2,h3,h4,h5,h6⟩:=h
 refine Pl fun i j g0 g1 g2=>?_
 have g2:i < 4:=g2
 rcases T1 (by omega) g2 with rfl | rfl | rfl | rfl <;> rcases T1 g0 (by omega) with rfl | rfl | rfl | rfl <;> first | omega | skip
 ·show ¬ (x+n=x∧y=y);omega
 ·show ¬ (x+n=x∧y+n=y);omega
 ·show ¬ (x+n=x+n∧y+n=y);omega
 ·show ¬ (x=x∧y+n=y);omega
 ·show ¬ (x=x+n∧y+n=y);omega
 ·show ¬ (x=x+n∧y+n=y+n);omega
theorem A7 {V S:List (Int×Int×Int)} (h: ∀ i j,0≤j→j < i→i < aY S→j4 V S i j=false):tZ V S=false:=by
 unfold tZ
 rw[dY]
 intro i h0 h1
 rw[dY]
 intro j g0 g1
 exact h i j g0 g1 h1
theorem SO {V S:List (Int×Int×Int)} (i j:Int) (h0:0≤j) (h1:j < i) (h2:i < aY S) (h:j4 V S i j=true):tZ V S=true:=by
 unfold tZ
 exact mH.2 ⟨i,by omega,h2,mH.2 ⟨j,h0,h1,h⟩⟩
theorem SK {x y n:Int} (h:L4 x y n):tZ (bx x y n) bs=false:=by
 have hb:=M2 (kD h)
 obtain⟨h1,h2,h3,h4,h5,h6⟩:=h
 refine A7 fun i j g0 g1 g2=>?_
 have g2:i < 4:=g2
 rcases T1 (by omega) g2 with rfl | rfl | rfl | rfl <;> rcases T1 g0 (by omega) with rfl | rfl | rfl | rfl <;> first | omega | skip
 ·refine m9 hb (a:=1) (b:=2) (c:=0) rfl rfl (.inr ?_) (by decide) (by decide) (by decide)
  show x+n=x+n∧y≠y+n∧y=y∧x≠x+n;omega
 ·rw[← Bool.not_eq_true,u4 hb (a:=2) (b:=3) (c:=0) (d:=1) rfl rfl (.inl ?_) (.inl ?_) (by decide) (by decide) (by decide) (by decide)]
  ·show ¬ (((x+n≤x∨x+n≤x+n)∨(x≤x∨x≤x+n))∧((x≤x+n∨x≤x)∨(x+n≤x+n∨x+n≤x))∧((y+n≤y∨y+n≤y)∨(y+n≤y∨y+n≤y))∧((y≤y+n∨y≤y+n)∨(y≤y+n∨y≤y+n)));omega
  ·show y+n=y+n∧x+n≠x;omega
  ·show y=y∧x≠x+n;omega
 ·refine m9 hb (a:=2) (b:=3) (c:=1) rfl rfl (.inl ?_) (by decide) (by decide) (by decide)
  show y+n=y+n∧x+n≠x∧x+n=x+n∧y≠y+n;omega
 ·refine TP hb (a:=3) (b:=0) (d:=1) rfl rfl (.inr ?_) (by decide) (by decide) (by decide)
  show x=x∧y+n≠y∧y=y∧x≠x+n;omega
 ·rw[← Bool.not_eq_true,u4 hb (a:=3) (b:=0) (c:=1) (d:=2) rfl rfl (.inr ?_) (.inr ?_) (by decide) (by decide) (by decide) (by decide)]
  ·show ¬ (((x≤x+n∨x≤x+n)∨(x≤x+n∨x≤x+n))∧((x+n≤x∨x+n≤x)∨(x+n≤x∨x+n≤x))∧((y+n≤y∨y+n≤y+n)∨(y≤y∨y≤y+n))∧((y≤y+n∨y≤y)∨(y+n≤y+n∨y+n≤y)));omega
  ·show x=x∧y+n≠y;omega
  ·show x+n=x+n∧y≠y+n;omega
 ·refine m9 hb (a:=3) (b:=0) (c:=2) rfl rfl (.inr ?_) (by decide) (by decide) (by decide)
  show x=x∧y+n≠y∧y+n=y+n∧x+n≠x;omega
theorem Uf {x y n:Int} (h:L4 x y n):Cm (bx x y n) bs []=0:=by
 rw[eM rfl (kD h),kW h,SK h];rfl
theorem UE {x y n:Int} (h:L4 x y n):Cm [(x,y,0),(x,y,0),(x+n,y+n,0),(x,y+n,0)] bs []=14:=by
 have hb:sE [(x,y,0),(x,y,0),(x+n,y+n,0),(x,y+n,0)]=true:=by
  obtain⟨h1,h2,h3,h4,h5,h6⟩:=h
  refine kT fun v hv=>?_
  simp only[List.mem_cons,List.not_mem_nil,or_false] at hv
  rcases hv with rfl | rfl | rfl | rfl <;> refine⟨⟨?_,?_⟩,?_,?_⟩ <;> show(_:Int)≤_ <;> simp only <;> omega
 rw[eM rfl hb,TS (V:=[(x,y,0),(x,y,0),(x+n,y+n,0),(x,y+n,0)]) 1 0 (by decide) (by decide) (show(1:Int) < 4 by decide) ⟨rfl,rfl⟩];rfl
theorem UF {x y n:Int} (h:L4 x y n):Cm (bx x y n) [(0,1,1),(1,2,2),(2,3,3)] []=15:=by
 rw[eM rfl (kD h),kW h];rfl
theorem UG {x y n:Int} (h:L4 x y n):Cm (bx x y n) [(0,1,1),(1,2,2),(2,3,3),(3,0,4),(0,1,1)] []=15:=by
 rw[eM rfl (kD h),kW h];rfl
theorem UH {x y n:Int} (h:L4 x y n):Cm (bx x y n) [(0,2,1),(1,2,2),(2,3,3),(3,0,4)] []=15:=by
 rw[eM rfl (kD h),kW h];rfl
theorem UJ {x y n:Int} :Cm (bx x y n) [(0,1,1),(1,2,2),(2,3, -1),(3,0,4)] []=10:=rfl
theorem UK {x y n:Int} :Cm [(x,y,0),(x+n,y,0),(x+n,y+n,0),(x,65,0)] bs []=13:=by
 have hb:sE [(x,y,0),(x+n,y,0),(x+n,y+n,0),(x,65,0)]=false:=by
  unfold sE
  rw[Bool.not_eq_false']
  refine mH.2 ⟨3,by decide,show(3:Int) < 4 by decide,?_⟩
  show(!(decide (0≤x)&&decide (x≤64))||true)=true
  rw[Bool.or_true]
 unfold Cm
 rw[hb];rfl
theorem UI {x y n:Int} (h:L4 x y n):Cm [(x,y,0),(x+n,y+n,0),(x+n,y,0),(x,y+n,0)] bs []=16:=by
 have hb:sE [(x,y,0),(x+n,y+n,0),(x+n,y,0),(x,y+n,0)]=true:=by
  obtain⟨h1,h2,h3,h4,h5,h6⟩:=h
  refine kT fun v hv=>?_
  simp only[List.mem_cons,List.not_mem_nil,or_false] at hv
  rcases hv with rfl | rfl | rfl | rfl <;> refine⟨⟨?_,?_⟩,?_,?_⟩ <;> show(_:Int)≤_ <;> simp only <;> omega
 have hbox:=M2 hb
 obtain⟨h1,h2,h3,h4,h5,h6⟩:=h
 have ht:yY [(x,y,0),(x+n,y+n,0),(x+n,y,0),(x,y+n,0)]=false:=by
  refine Pl fun i j g0 g1 g2=>?_
  have g2:i < 4:=g2
  rcases T1 (by omega) g2 with rfl | rfl | rfl | rfl <;> rcases T1 g0 (by omega) with rfl | rfl | rfl | rfl <;> first | omega | skip
  ·show ¬ (x+n=x∧y+n=y);omega
  ·show ¬ (x+n=x∧y=y);omega
  ·show ¬ (x+n=x+n∧y=y+n);omega
  ·show ¬ (x=x∧y+n=y);omega
  ·show ¬ (x=x+n∧y+n=y+n);omega
  ·show ¬ (x=x+n∧y+n=y);omega
 have nn:0 < n*n:=Int.mul_pos (by omega) (by omega)
 have pos: ∀ z:Int,0 < z→sgn z 0=1:=fun z hz=>by rcases eS z 0 with ⟨_,e⟩ | ⟨_,e⟩ | ⟨_,e⟩ <;> first | exact e | omega
 have neg: ∀ z:Int,z < 0→sgn z 0= -1:=fun z hz=>by rcases eS z 0 with ⟨_,e⟩ | ⟨_,e⟩ | ⟨_,e⟩ <;> first | exact e | omega
 have k1:tV [(x,y,0),(x+n,y+n,0),(x+n,y,0),(x,y+n,0)] 2 3 0=1:=by
  rw[EH hbox];refine pos _ ?_
  show 0 < (x - (x+n))*(y - y) - (y+n - y)*(x - (x+n))
  have e:(x - (x+n))*(y - y) - (y+n - y)*(x - (x+n))=n*n:=by
   rw[Int.sub_self,Int.mul_zero,show y+n - y=n by omega,show x - (x+n)= -n by omega,Int.mul_neg];omega
  rw[e];exact nn
 have k2:tV [(x,y,0),(x+n,y+n,0),(x+n,y,0),(x,y+n,0)] 2 3 1= -1:=by
  rw[EH hbox];refine neg _ ?_
  show(x - (x+n))*(y+n - y) - (y+n - y)*(x+n - (x+n)) < 0
  have e:(x - (x+n))*(y+n - y) - (y+n - y)*(x+n - (x+n))= -(n*n):=by
   rw[Int.sub_self,Int.mul_zero,show y+n - y=n by omega,show x - (x+n)= -n by omega,Int.neg_mul];omega
  rw[e];omega
 have k3:tV [(x,y,0),(x+n,y+n,0),(x+n,y,0),(x,y+n,0)] 0 1 2= -1:=by
  rw[EH hbox];refine neg _ ?_
  show(x+n - x)*(y - y) - (y+n - y)*(x+n - x) < 0
  have e:(x+n - x)*(y - y) - (y+n - y)*(x+n - x)= -(n*n):=by
   rw[Int.sub_self,Int.mul_zero,show y+n - y=n by omega,show x+n - x=n by omega];omega
  rw[e];omega
 have k4:tV [(x,y,0),(x+n,y+n,0),(x+n,y,0),(x,y+n,0)] 0 1 3=1:=by
  rw[EH hbox];refine pos _ ?_
  show 0 < (x+n - x)*(y+n - y) - (y+n - y)*(x - x)
  have e:(x+n - x)*(y+n - y) - (y+n - y)*(x - x)=n*n:=by
   rw[Int.sub_self,Int.mul_zero,show y+n - y=n by omega,show x+n - x=n by omega];omega
  rw[e];exact nn
 have hc:tZ [(x,y,0),(x+n,y+n,0),(x+n,y,0),(x,y+n,0)] bs=true:=by
  refine SO 2 0 (by decide) (by decide) (show(2:Int) < 4 by decide) ?_
  unfold j4
  rw[Bool.or_eq_true]
  refine .inr ?_
  show(decide (Kd (tV _ 2 3 0) (tV _ 2 3 1) < 0)&&decide (Kd (tV _ 0 1 2) (tV _ 0 1 3) < 0))=true
  rw[k1,k2,k3,k4];rfl
 rw[eM rfl hb,ht,hc];rfl
end Go.Eng

