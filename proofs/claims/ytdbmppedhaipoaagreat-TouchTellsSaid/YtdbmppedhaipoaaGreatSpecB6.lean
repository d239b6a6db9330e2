
import Derived.Test.YtdbmppedhaipoaaGreatSpecB5
set_option linter.all false
set_option exponentiation.threshold 3000
set_option maxRecDepth 100000
set_option maxHeartbeats 2000000
namespace Go.Eng
theorem Vy {a b p:Pt} {ax ay bx by_ X Y:Int} (ha:AtP a ax ay) (hb:AtP b bx by_) (hp:AtP p X Y):bD.turn a b p=sgn (crJ ax ay bx by_ X Y) 0:=by
 rw[kN (AL ha.is hb.is hp.is),vQ ha hb hp,En]
 rfl
theorem Zr (m:Int):(sgn m 0=1↔0 < m)∧(sgn m 0= -1↔m < 0):=by
 unfold sgn
 split
 ·constructor <;> constructor <;> intro h <;> first | omega | exact absurd h (by decide)
 ·split
  ·constructor <;> constructor <;> intro h <;> first | omega | exact absurd h (by decide)
  ·constructor <;> constructor <;> intro h <;> first | omega | exact absurd h (by decide)
theorem VN {x y s ax ay bx by_:Int} {a b:Pt} (h:XW x y s) (ha:AtP a ax ay) (hb:AtP b bx by_):metI x y s ax ay bx by_=XX x y s a b:=by
 obtain⟨c0,c1,c2,c3⟩:=WZ h
 have Ia:=e9 ha.is
 have Ib:=e9 hb.is
 have I0:=e9 c0.is
 have I2:=e9 c2.is
 rw[Bool.eq_iff_iff]
 unfold XX metI
 rw[Bool.and_eq_true,Bool.and_eq_true,Bool.not_eq_true',Bool.and_eq_true,Bool.not_eq_true',Bool.not_eq_true', ← Bool.not_eq_true, ← Bool.not_eq_true, ← Bool.not_eq_true,Bool.or_eq_true (Vv _ _ _ _),Vm Ia.x Ib.x I0.x I2.x,Vm Ia.y Ib.y I0.y I2.y]
 unfold Wg VC
 rw[Vy ha hb c0,Vy ha hb c1,Vy ha hb c2,Vy ha hb c3]
 simp only[Bool.or_eq_true,Bool.and_eq_true,decide_eq_true_eq,(Zr _).1,(Zr _).2]
 have r0:bI (coB x y s 0).X=(x:Rat):=c0.x
 have r1:bI (coB x y s 0).Y=(y:Rat):=c0.y
 have r2:bI (coB x y s 2).X=((x+s:Int):Rat):=c2.x
 have r3:bI (coB x y s 2).Y=((y+s:Int):Rat):=c2.y
 have r4:bI a.X=(ax:Rat):=ha.x
 have r5:bI a.Y=(ay:Rat):=ha.y
 have r6:bI b.X=(bx:Rat):=hb.x
 have r7:bI b.Y=(by_:Rat):=hb.y
 rw[r0,r1,r2,r3,r4,r5,r6,r7]
 have lt: ∀ m n:Int,((m:Rat) < (n:Rat))↔m < n:=fun m n=>Rat.intCast_lt_intCast
 simp only[lt]
 clear r0 r1 r2 r3 r4 r5 r6 r7 Ia Ib I0 I2 c0 c1 c2 c3 ha hb lt
 have mx: ∀ p q:Int,aA.mx p q=if p < q then q else p:=fun p q=>rfl
 have mn: ∀ p q:Int,aA.mn p q=if q < p then q else p:=fun p q=>rfl
 rw[mx,mx,mn,mn]
 generalize crJ ax ay bx by_ x y=t0
 generalize crJ ax ay bx by_ (x+s) y=t1
 generalize crJ ax ay bx by_ x (y+s)=t3
 generalize crJ ax ay bx by_ (x+s) (y+s)=t2
 constructor
 ·rintro⟨h1,h2,h3⟩
  constructor
  ·rintro((g | g) | (g | g)) <;> apply h1 <;> (split <;> split <;> split <;> split <;> omega)
  ·rintro(g | g) <;> omega
 ·rintro⟨h1,h2⟩
  refine⟨?_,by omega,by omega⟩
  rintro(g | g | g | g) <;> apply h1 <;> (revert g;split <;> intro g <;> omega)
theorem Zl {V:List (Int×Int×Int)} {i:Int} (h1:nS V i=true) (h2:Fe (cK V i)=false):AtP (ptV V i) (cK V i).1 (cK V i).2.1:=by
 unfold ptV axV ayV
 rw[h1]
 unfold Fe at h2
 simp at h2
 exact atP (WU (by simp;omega) (by simp;omega)) (WU (by simp;omega) (by simp;omega))
structure CkI (V S:List (Int×Int×Int)) (k:Int):Prop where
 a:nS V (cK S k).1=true
 b:nS V (cK S k).2.1=true
 oa:Fe (cK V (cK S k).1)=false
 ob:Fe (cK V (cK S k).2.1)=false
theorem Zn {V S:List (Int×Int×Int)} {l:List Pt} (h:Cm V S l=0) {k:Int} (h0:0≤k) (h1:k < aY S):CkI V S k:=by
 unfold Cm at h
 cases hf:iO V S l
 ·rw[hf] at h;simp at h
 ·cases hb:sE V
  ·rw[hf,hb] at h;simp at h
  ·unfold iO at hf
   simp only[Bool.and_eq_true,Bool.not_eq_true'] at hf
   have hs:=dY.1 hf.2.2.1 k h0 h1
   unfold zC at hs
   simp only[Bool.or_eq_false_iff,Bool.not_eq_false'] at hs
   obtain⟨a,b, -⟩:=hs
   unfold sE at hb
   rw[Bool.not_eq_true'] at hb
   have go: ∀ i,nS V i=true→Fe (cK V i)=false:=fun i hi=>by
    unfold nS at hi
    simp only[Bool.and_eq_true,decide_eq_true_eq] at hi
    exact dY.1 hb i hi.1 hi.2
   exact⟨a,b,go _ a,go _ b⟩
theorem W4 {V S:List (Int×Int×Int)} {l:List Pt} (h:Cm V S l=0) {x y s:Int} (hc:Vq x y s=true) {k:Int} (h0:0≤k) (h1:k < aY S):metI x y s (cK V (cK S k).1).1 (cK V (cK S k).1).2.1 (cK V (cK S k).2.1).1 (cK V (cK S k).2.1).2.1=VM x y s V S k:=by
 have c:=Zn h h0 h1
 have ha:=Zl c.a c.oa
 have hb:=Zl c.b c.ob
 rw[VN (Vb hc) ha hb]
 unfold VM U3
 rw[hc,Po ha.is hb.is]
 rfl
end Go.Eng
