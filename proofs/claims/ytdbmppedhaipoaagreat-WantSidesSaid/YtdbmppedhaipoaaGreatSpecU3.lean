
import Derived.Test.YtdbmppedhaipoaaGreatSpecU2
import Derived.Test.YtdbmppedhaipoaaGreatSpecFA
set_option linter.all false
set_option exponentiation.threshold 3000
set_option maxRecDepth 100000
namespace Go.Eng
theorem fC {n:Int} {p q:Int→Bool} (h: ∀ k,0≤k→k < n→p k=q k):cY n p=cY n q:=by
 cases hq:cY n q
 ·rw[dY] at hq ⊢
  intro j h0 h1
  rw[h j h0 h1];exact hq j h0 h1
 ·rw[mH] at hq ⊢
  obtain⟨j,h0,h1,h2⟩:=hq
  exact⟨j,h0,h1,by rw[h j h0 h1];exact h2⟩
theorem Jd (v:Int×Int×Int):FA v=Fe v:=by
 obtain⟨x,y,m⟩:=v
 show(decide (x < 0)||(decide (y < 0)||(decide (x > 64)||decide (y > 64))))=(!(decide (0≤x)&&decide (x≤64))|| !(decide (0≤y)&&decide (y≤64)))
 have e: ∀ a:Int,(!(decide (0≤a)&&decide (a≤64)))=(decide (a < 0)||decide (a > 64)):=fun a=>by
  by_cases h1:0≤a <;> by_cases h2:a≤64 <;> simp[h1,h2] <;> omega
 rw[e,e]
 cases decide (x < 0) <;> cases decide (y < 0) <;> cases decide (x > 64) <;> cases decide (y > 64) <;> rfl
theorem vM (V:List (Int×Int×Int)):sE V= !cY (aY V) fun k=>FA (cK V k):=by
 unfold sE
 rw[fC fun k _ _=>(Jd (cK V k)).symm]
theorem HR {V:List (Int×Int×Int)} {i:Int} (h0:0≤i) (h1:i < aY V):nS V i=true∧axV V i=(cK V i).1∧ayV V i=(cK V i).2.1:=by
 have h:nS V i=true:=by unfold nS;rw[decide_eq_true h0,decide_eq_true h1];rfl
 unfold axV ayV
 rw[h]
 exact⟨rfl,rfl,rfl⟩
theorem Hx (V:List (Int×Int×Int)):yY V=cY (aY V) fun i=>cY i fun j=>Zz V i j:=by
 unfold yY
 refine fC fun i h0 h1=>fC fun j g0 g1=>?_
 obtain⟨_,e1,e2⟩:=HR h0 h1
 obtain⟨_,e3,e4⟩:=HR g0 (show j < aY V by omega)
 unfold vE Zz
 rw[e1,e2,e3,e4]
theorem zS (l:List Int) (a v:Int) (ha:0≤a) (hl:a < (l.length:Int)) (hv:0≤v):mU (zT l a) v=if a=v then aD .add .i64 (mU l v) 1 else mU l v:=by
 show((l.set a.toNat _)[v.toNat]?).getD 0=_
 by_cases h:a=v
 ·subst h
  rw[if_pos rfl,List.getElem?_set_self (by omega)];rfl
 ·rw[if_neg h,List.getElem?_set_ne (by omega)];rfl
theorem vU (V S:List (Int×Int×Int)): ∀ k,(jA V S k).length=V.length
 | 0=>by simp[jA]
 | k+1=>by
  show(zT (zT (jA V S k) _) _).length=_
  have h: ∀ (l:List Int) i,(zT l i).length=l.length:=fun l i=>by show(List.set _ _ _).length=_;simp
  rw[h,h,vU V S k]
structure Fj (V S:List (Int×Int×Int)):Prop where
 a0: ∀ k,0≤k→k < aY S→0≤(cK S k).1∧(cK S k).1 < aY V
 b0: ∀ k,0≤k→k < aY S→0≤(cK S k).2.1∧(cK S k).2.1 < aY V
 ne: ∀ k,0≤k→k < aY S→(cK S k).1≠(cK S k).2.1
theorem G8 {V S:List (Int×Int×Int)} {l:List Pt} (h:iO V S l=true):Fj V S:=by
 unfold iO at h
 simp only[Bool.and_eq_true,Bool.not_eq_true'] at h
 have hs:=dY.1 h.2.2.1
 have key: ∀ k,0≤k→k < aY S→nS V (cK S k).1=true∧nS V (cK S k).2.1=true∧(cK S k).1≠(cK S k).2.1:=fun k h0 h1=>by
  have:=hs k h0 h1
  unfold zC at this
  simp only[Bool.or_eq_false_iff,Bool.not_eq_false',decide_eq_false_iff_not] at this
  exact⟨this.1,this.2.1,this.2.2.1⟩
 refine⟨fun k h0 h1=>?_,fun k h0 h1=>?_,fun k h0 h1=>(key k h0 h1).2.2⟩
 ·have:=(key k h0 h1).1
  unfold nS at this
  simpa using this
 ·have:=(key k h0 h1).2.1
  unfold nS at this
  simpa using this
theorem zK {V S:List (Int×Int×Int)} (hs:Fj V S) (v:Int) (h0:0≤v) (h1:v < aY V): ∀ k:Nat,(k:Int)≤aY S→mU (jA V S k) v=sK S v k
 | 0,_=>by
  show((List.replicate V.length (0:Int))[v.toNat]?).getD 0=0
  cases h:(List.replicate V.length (0:Int))[v.toNat]? with
  | none=>rfl
  | some x=>
   have:=List.mem_of_getElem? h
   rw[List.mem_replicate] at this
   rw[this.2];rfl
 | k+1,hk=>by
  have ih:=zK hs v h0 h1 k (by omega)
  have ha:=hs.a0 k (by omega) (by omega)
  have hb:=hs.b0 k (by omega) (by omega)
  have hn:=hs.ne k (by omega) (by omega)
  have hl:=vU V S k
  have hl2:(zT (jA V S k) (cK S k).1).length=V.length:=by
   rw[← hl];show(List.set _ _ _).length=_;simp
  have hv:aY V=(V.length:Int):=rfl
  show mU (zT (zT (jA V S k) (cK S k).1) (cK S k).2.1) v=if tS (cK S k) v then aD .add .i64 (sK S v k) 1 else sK S v k
  rw[zS _ _ _ hb.1 (by rw[hl2];omega) h0,zS _ _ _ ha.1 (by rw[hl];omega) h0,ih]
  unfold tS
  by_cases e1:(cK S k).1=v
  ·have e2:(cK S k).2.1≠v:=fun h=>hn (by rw[e1,h])
   simp[e1,e2]
  ·by_cases e2:(cK S k).2.1=v <;> simp[e1,e2]
theorem FT {V S:List (Int×Int×Int)} (hs:Fj V S):uQ V S= !cY (aY V) fun k=>decide (sK S k S.length≠2):=by
 unfold uQ
 rw[fC fun k h0 h1=>by rw[zK hs k h0 h1 S.length (Int.le_refl _)]]
structure pV (V:List (Int×Int×Int)):Prop where
 x: ∀ i,0≤axV V i∧axV V i≤64
 y: ∀ i,0≤ayV V i∧ayV V i≤64
theorem M2 {V:List (Int×Int×Int)} (h:sE V=true):pV V:=by
 unfold sE at h
 rw[Bool.not_eq_true'] at h
 have key: ∀ i,(0≤axV V i∧axV V i≤64)∧(0≤ayV V i∧ayV V i≤64):=fun i=>by
  unfold axV ayV
  cases hh:nS V i
  ·simp
  ·simp only[if_true]
   unfold nS at hh
   simp only[Bool.and_eq_true,decide_eq_true_eq] at hh
   have:=dY.1 h i hh.1 hh.2
   unfold Fe at this
   simpa using this
 exact⟨fun i=>(key i).1,fun i=>(key i).2⟩
theorem pV.at {V:List (Int×Int×Int)} (h:pV V) (i:Int):AtP (ptV V i) (axV V i) (ayV V i):=by
 have hx:=h.x i
 have hy:=h.y i
 exact atP (by show(axV V i).natAbs < 2 ^ 60;omega) (by show(ayV V i).natAbs < 2 ^ 60;omega)
theorem q7 {x y:Int} (hx: -64≤x∧x≤64) (hy: -64≤y∧y≤64): -4096≤x*y∧x*y≤4096:=by
 have h:(x*y).natAbs≤64*64:=by
  rw[Int.natAbs_mul]
  exact Nat.mul_le_mul (by omega) (by omega)
 omega
def crI (V:List (Int×Int×Int)) (a b c:Int):Int:=(axV V b - axV V a)*(ayV V c - ayV V a) - (ayV V b - ayV V a)*(axV V c - axV V a)
theorem EH {V:List (Int×Int×Int)} (h:pV V) (a b c:Int):tV V a b c=sgn (crI V a b c) 0:=by
 have w: ∀ z:Int, -10000≤z→z≤10000→IntKind.i64.wrap z=z:=fun z h1 h2=>by rw[IntKind.wrap_i64];omega
 have xa:=h.x a;have ya:=h.y a;have xb:=h.x b;have yb:=h.y b;have xc:=h.x c;have yc:=h.y c
 have s: ∀ u v:Int,0≤u∧u≤64→0≤v∧v≤64→Lo u v=u - v:=fun u v h1 h2=>w _ (by omega) (by omega)
 have m: ∀ u v:Int, -64≤u∧u≤64→ -64≤v∧v≤64→Kd u v=u*v:=fun u v h1 h2=>by
  have:=q7 h1 h2
  exact w _ (by omega) (by omega)
 have b1:=q7 (x:=axV V b - axV V a) (y:=ayV V c - ayV V a) (by omega) (by omega)
 have b2:=q7 (x:=ayV V b - ayV V a) (y:=axV V c - axV V a) (by omega) (by omega)
 unfold tV EG
 rw[s _ _ xb xa,s _ _ yc ya,s _ _ yb ya,s _ _ xc xa,m _ _ (by omega) (by omega),m _ _ (by omega) (by omega)]
 have e:Lo ((axV V b - axV V a)*(ayV V c - ayV V a)) ((ayV V b - ayV V a)*(axV V c - axV V a))=crI V a b c:=w _ (by omega) (by omega)
 rw[e]
 show(let u:=if -1 > crI V a b c then -1 else crI V a b c;if(1:Int) < u then 1 else u)=sgn (crI V a b c) 0
 unfold sgn
 simp only
 split <;> split <;> split <;> omega
theorem O0 {V:List (Int×Int×Int)} (h:pV V) (a b c:Int):tV V a b c=cZ (bB (ptV V a) (ptV V b) (ptV V c)) 0:=by
 rw[EH h,vQ (h.at a) (h.at b) (h.at c),En];rfl
theorem QK (p q r s:Rat):decide (Kd (cZ p q) (cZ r s) < 0)=decide (cZ p q*cZ r s < 0):=by
 have e:Kd (cZ p q) (cZ r s)=cZ p q*cZ r s:=by
  rcases dH p q with ⟨_,h,_⟩ | ⟨_,h,_⟩ | ⟨_,h,_⟩ <;> rcases dH r s with ⟨_,h',_⟩ | ⟨_,h',_⟩ | ⟨_,h',_⟩ <;> rw[h,h'] <;> rfl
 rw[e]
theorem Nv (p a b:Int):decide (p ≥ aA.mn a b)=(decide (a≤p)||decide (b≤p)):=by
 show decide (p ≥ if b < a then b else a)=_
 split <;> by_cases h1:a≤p <;> by_cases h2:b≤p <;> simp[h1,h2] <;> omega
theorem Nx (p a b:Int):decide (p≤aA.mx a b)=(decide (p≤a)||decide (p≤b)):=by
 show decide (p≤if b > a then b else a)=_
 split <;> by_cases h1:p≤a <;> by_cases h2:p≤b <;> simp[h1,h2] <;> omega
theorem pY (p a b:Int):((a≤p∨b≤p)∧(p≤a∨p≤b))↔(a - p)*(b - p)≤0:=by
 constructor
 ·rintro⟨h1,h2⟩
  rcases Int.le_total a p with ha | ha
  ·rcases Int.le_total p b with hb | hb
   ·exact Int.mul_nonpos_of_nonpos_of_nonneg (by omega) (by omega)
   ·have:a=p∨b=p:=by omega
    rcases this with e | e <;> subst e <;> simp
  ·rcases Int.le_total b p with hb | hb
   ·exact Int.mul_nonpos_of_nonneg_of_nonpos (by omega) (by omega)
   ·have:a=p∨b=p:=by omega
    rcases this with e | e <;> subst e <;> simp
 ·intro h
  by_cases h1:a < p
  ·by_cases h2:b < p
   ·have:=Int.mul_pos_of_neg_of_neg (show a - p < 0 by omega) (show b - p < 0 by omega)
    omega
   ·omega
  ·by_cases h2:p < a
   ·by_cases h3:p < b
    ·have:=Int.mul_pos (show 0 < a - p by omega) (show 0 < b - p by omega)
     omega
    ·omega
   ·omega
theorem II {ux uy vx vy:Int} (hc:ux*vy=uy*vx):(ux*vx≤0∧uy*vy≤0)↔ux*vx+uy*vy≤0:=by
 constructor
 ·rintro⟨h1,h2⟩;omega
 ·intro h
  have e:(ux*vx)*(uy*vy)=(ux*vy)*(ux*vy):=by
   have:(ux*vx)*(uy*vy)=(ux*vy)*(uy*vx):=by grind
   rw[this, ← hc]
  have hsq:0≤(ux*vy)*(ux*vy):=by
   rcases Int.le_total 0 (ux*vy) with h0 | h0
   ·exact Int.mul_nonneg h0 h0
   ·exact Int.mul_nonneg_of_nonpos_of_nonpos h0 h0
  rw[← e] at hsq
  refine⟨Int.not_lt.1 fun h1=>?_,Int.not_lt.1 fun h1=>?_⟩
  ·have h2:uy*vy < 0:=by omega
   have:=Int.mul_neg_of_pos_of_neg h1 h2
   omega
  ·have h2:ux*vx < 0:=by omega
   have:=Int.mul_neg_of_neg_of_pos h2 h1
   omega
theorem S2 {V:List (Int×Int×Int)} (h:pV V) (u v i:Int):onV V u v i=onP (ptV V u) (ptV V v) (ptV V i):=by
 have hc:=vQ (h.at u) (h.at v) (h.at i)
 have hd:=I5 (h.at i) (h.at u) (h.at v)
 unfold onP onV
 rw[show EG (axV V u) (ayV V u) (axV V v) (ayV V v) (axV V i) (ayV V i)=tV V u v i from rfl,EH h,hc,hd,Nv,Nx,Nv,Nx]
 have e1:decide (sgn (crI V u v i) 0=0)=decide (crI V u v i=0):=by
  unfold sgn
  exact decide_eq_decide.2 (by split <;> (try split) <;> omega)
 have e2:decide (((((axV V v - axV V u)*(ayV V i - ayV V u) - (ayV V v - ayV V u)*(axV V i - axV V u):Int)):Rat)=0)=decide (crI V u v i=0):=decide_eq_decide.2 (by
  rw[show(0:Rat)=((0:Int):Rat) from rfl,Rat.intCast_inj];rfl)
 have e3:decide (((((axV V u - axV V i)*(axV V v - axV V i)+(ayV V u - ayV V i)*(ayV V v - ayV V i):Int)):Rat)≤0)=decide ((axV V u - axV V i)*(axV V v - axV V i)+(ayV V u - ayV V i)*(ayV V v - ayV V i)≤0):=decide_eq_decide.2 (by
  rw[show(0:Rat)=((0:Int):Rat) from rfl,Rat.intCast_le_intCast])
 rw[e1,e2,e3]
 by_cases hz:crI V u v i=0
 ·rw[decide_eq_true hz,Bool.true_and,Bool.true_and]
  have hcz:(axV V u - axV V i)*(ayV V v - ayV V i)=(ayV V u - ayV V i)*(axV V v - axV V i):=by
   unfold crI at hz
   grind
  have hb:=II hcz
  have hx:=pY (axV V i) (axV V u) (axV V v)
  have hy:=pY (ayV V i) (ayV V u) (ayV V v)
  rw[← hx, ← hy] at hb
  by_cases hh:(axV V u - axV V i)*(axV V v - axV V i)+(ayV V u - ayV V i)*(ayV V v - ayV V i)≤0
  ·obtain⟨⟨k1,k2⟩,k3,k4⟩:=hb.2 hh
   rw[decide_eq_true hh]
   simp[k1,k2,k3,k4]
  ·rw[decide_eq_false hh]
   have hn:=fun k=>hh (hb.1 k)
   cases hh2:(decide (axV V u≤axV V i)||decide (axV V v≤axV V i))&&((decide (axV V i≤axV V u)||decide (axV V i≤axV V v))&&((decide (ayV V u≤ayV V i)||decide (ayV V v≤ayV V i))&&(decide (ayV V i≤ayV V u)||decide (ayV V i≤ayV V v))))
   ·rfl
   ·simp only[Bool.and_eq_true,Bool.or_eq_true,decide_eq_true_eq] at hh2
    exact absurd ⟨⟨hh2.1,hh2.2.1⟩,hh2.2.2.1,hh2.2.2.2⟩ hn
 ·rw[decide_eq_false hz];rfl
theorem AS (P:Int→Pt) (a b c d:Int) (hab:a≠b) (hcd:c≠d) (hac:P a=P c→a=c) (had:P a=P d→a=d) (hbc:P b=P c→b=c) (hbd:P b=P d→b=d) (nab:P a≠P b) (ncd:P c≠P d) :
  ((decide (c=a)||decide (c=b))&&(decide (d=a)||decide (d=b))||((onP (P a) (P b) (P c)&& !(decide (c=a)||decide (c=b)))||(onP (P a) (P b) (P d)&& !(decide (d=a)||decide (d=b))))||
   ((onP (P c) (P d) (P a)&&(!decide (a=c)&& !decide (a=d)))||(onP (P c) (P d) (P b)&&(!decide (b=c)&& !decide (b=d))))||cJ (P a) (P b) (P c) (P d))=
  (decide (lL (P a) (P b) (P c) (P d)=2)||(decide (lL (P a) (P b) (P c) (P d)=1)&&(!decide (a=c)&&(!decide (a=d)&&(!decide (b=c)&& !decide (b=d)))))):=by
 have x1: ∀ p q r:Pt,cJ p q p r=false:=fun p q r=>by unfold cJ;rw[i6];simp[cZ]
 have x2: ∀ p q r:Pt,cJ p q r p=false:=fun p q r=>by unfold cJ;rw[i6];simp[cZ]
 have x3: ∀ p q r:Pt,cJ p q q r=false:=fun p q r=>by unfold cJ;rw[i7];simp[cZ]
 have x4: ∀ p q r:Pt,cJ p q r q=false:=fun p q r=>by unfold cJ;rw[i7];simp[cZ]
 by_cases e1:a=c
 ·subst e1
  by_cases e2:b=d
  ·subst e2
   have:lL (P a) (P b) (P a) (P b)=2:=by
    unfold lL
    have h1:w8 (P a) (P b) (P a) (P b)=false:=by
     unfold w8 eok
     simp[nab,Ne.symm nab,GR,Fd]
    have h2:anyP (P a) (P b) (P a) (P b)=true:=by unfold anyP;rw[Fd];simp
    rw[h1,h2];rfl
   rw[this]
   simp
  ·have hd: ¬ d=a:=fun h=>hcd h.symm
   have hd2: ¬ d=b:=fun h=>e2 h.symm
   have hb: ¬ b=a:=fun h=>hab h.symm
   have nbd:P b≠P d:=fun h=>e2 (hbd h)
   have nba:P b≠P a:=Ne.symm nab
   have nda:P d≠P a:=Ne.symm ncd
   unfold lL w8 anyP eok
   rw[x1]
   simp only[hd,hd2,hb,hab,hcd,e2,nbd,nba,nda,nab,ncd,Fd,GR,decide_true,decide_false,Bool.true_or,Bool.or_true,Bool.false_or,Bool.or_false,Bool.true_and,Bool.and_true,Bool.false_and,Bool.and_false,Bool.not_true,Bool.not_false]
   cases onP (P a) (P b) (P d) <;> cases onP (P a) (P d) (P b) <;> simp
 ·by_cases e2:a=d
  ·subst e2
   by_cases e3:b=c
   ·subst e3
    have:lL (P a) (P b) (P b) (P a)=2:=by
     unfold lL
     have h1:w8 (P a) (P b) (P b) (P a)=false:=by
      unfold w8 eok
      simp[nab,Ne.symm nab,GR,Fd]
     have h2:anyP (P a) (P b) (P b) (P a)=true:=by unfold anyP;rw[GR];simp
     rw[h1,h2];rfl
    rw[this]
    simp
   ·have hc: ¬ c=a:=hcd
    have hc2: ¬ c=b:=fun h=>e3 h.symm
    have hb: ¬ b=a:=fun h=>hab h.symm
    have nbc:P b≠P c:=fun h=>e3 (hbc h)
    have nba:P b≠P a:=Ne.symm nab
    have nac:P a≠P c:=Ne.symm ncd
    unfold lL w8 anyP eok
    rw[x2]
    simp only[hc,hc2,hb,hab,e1,e3,nbc,nba,nac,nab,ncd,Fd,GR,decide_true,decide_false,Bool.true_or,Bool.or_true,Bool.false_or,Bool.or_false,Bool.true_and,Bool.and_true,Bool.false_and,Bool.and_false,Bool.not_true,Bool.not_false]
    rw[wF (P c) (P a) (P b)]
    cases onP (P a) (P b) (P c) <;> cases onP (P a) (P c) (P b) <;> simp
  ·by_cases e3:b=c
   ·subst e3
    have hd: ¬ d=a:=fun h=>e2 h.symm
    have hd2: ¬ d=b:=fun h=>hcd h.symm
    have hb: ¬ b=a:=fun h=>hab h.symm
    have nad:P a≠P d:=fun h=>e2 (had h)
    have nba:P b≠P a:=Ne.symm nab
    have ndb:P d≠P b:=Ne.symm ncd
    unfold lL w8 anyP eok
    rw[x3]
    simp only[hd,hd2,hb,hab,e1,e2,hcd,nad,nba,ndb,nab,ncd,Fd,GR,decide_true,decide_false,Bool.true_or,Bool.or_true,Bool.false_or,Bool.or_false,Bool.true_and,Bool.and_true,Bool.false_and,Bool.and_false,Bool.not_true,Bool.not_false]
    rw[wF (P b) (P a) (P d)]
    cases onP (P a) (P b) (P d) <;> cases onP (P b) (P d) (P a) <;> simp
   ·by_cases e4:b=d
    ·subst e4
     have hc: ¬ c=a:=fun h=>e1 h.symm
     have hc2: ¬ c=b:=hcd
     have hb: ¬ b=a:=fun h=>hab h.symm
     have nac:P a≠P c:=fun h=>e1 (hac h)
     have nba:P b≠P a:=Ne.symm nab
     have nbc:P b≠P c:=Ne.symm ncd
     unfold lL w8 anyP eok
     rw[x4]
     simp only[hc,hc2,hb,hab,e1,e3,nac,nba,nbc,nab,ncd,Fd,GR,decide_true,decide_false,Bool.true_or,Bool.or_true,Bool.false_or,Bool.or_false,Bool.true_and,Bool.and_true,Bool.false_and,Bool.and_false,Bool.not_true,Bool.not_false]
     rw[wF (P b) (P a) (P c),wF (P b) (P c) (P a)]
     cases onP (P a) (P b) (P c) <;> cases onP (P c) (P b) (P a) <;> simp
    ·have hc: ¬ c=a:=fun h=>e1 h.symm
     have hc2: ¬ c=b:=fun h=>e3 h.symm
     have hd: ¬ d=a:=fun h=>e2 h.symm
     have hd2: ¬ d=b:=fun h=>e4 h.symm
     have nac:P a≠P c:=fun h=>e1 (hac h)
     have nad:P a≠P d:=fun h=>e2 (had h)
     have nbc:P b≠P c:=fun h=>e3 (hbc h)
     have nbd:P b≠P d:=fun h=>e4 (hbd h)
     unfold lL w8 anyP
     simp only[hc,hc2,hd,hd2,e1,e2,e3,e4,nac,nad,nbc,nbd,decide_true,decide_false,Bool.true_or,Bool.or_true,Bool.false_or,Bool.or_false,Bool.true_and,Bool.and_true,Bool.false_and,Bool.and_false,Bool.not_true,Bool.not_false]
     cases onP (P a) (P b) (P c) <;> cases onP (P a) (P b) (P d) <;> cases onP (P c) (P d) (P a) <;> cases onP (P c) (P d) (P b) <;> cases cJ (P a) (P b) (P c) (P d) <;> simp
end Go.Eng
