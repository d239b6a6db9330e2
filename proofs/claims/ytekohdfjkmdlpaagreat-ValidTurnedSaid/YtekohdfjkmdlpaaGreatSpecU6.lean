
import Derived.Test.YtekohdfjkmdlpaaGreatSpecU5
set_option linter.all false
set_option exponentiation.threshold 3000
namespace Go.Eng
set_option maxRecDepth 100000
set_option maxHeartbeats 2000000
theorem Tn {R:List (Int×Int×Int)} {x:Int×Int×Int} {j:Int} (h0:0≤j) (h1:j < (R.length:Int)):cK (R++[x]) j=cK R j:=by
 show((R++[x])[j.toNat]?).getD _=(R[j.toNat]?).getD _
 rw[List.getElem?_append_left (by omega)]
theorem Tj {R:List (Int×Int×Int)} {x:Int×Int×Int} {j:Int} (h:j=(R.length:Int)):cK (R++[x]) j=x:=by
 show((R++[x])[j.toNat]?).getD _=x
 rw[show j.toNat=R.length by omega,List.getElem?_concat_length];rfl
structure To (V:List (Int×Int×Int)) (k i:Int) (R:List (Int×Int×Int)):Prop where
 i0:0≤i
 i1:i≤aY V
 ln:(R.length:Int)=i
 g: ∀ j,0≤j→j < i→cK R j=cK V ((j+k) % aY V)
theorem To.zero (V:List (Int×Int×Int)) (k:Int):To V k 0 []:=⟨Int.le_refl 0,Int.natCast_nonneg _,rfl,fun j h0 h1=>by omega⟩
theorem To.step {V R:List (Int×Int×Int)} {k i:Int} (h:To V k i R) (hi:i < aY V) {x:Int×Int×Int} (hx:x=cK V ((i+k) % aY V)):To V k (i+1) (R++[x]):=by
 refine⟨by have:=h.i0;omega,by omega,by rw[List.length_append];have:=h.ln;show((R.length+1:Nat):Int)=i+1;omega,fun j h0 h1=>?_⟩
 have hl:=h.ln
 by_cases hj:j < i
 ·rw[Tn h0 (by omega)];exact h.g j h0 hj
 ·have:j=i:=by omega
  subst this
  rw[Tj hl.symm];exact hx
structure TC (n k:Int) (s t:Int×Int×Int):Prop where
 a:0≤s.1∧s.1 < n
 b:0≤s.2.1∧s.2.1 < n
 m:t.2.2=s.2.2
 e:(t.1=(s.1+n - k) % n∧t.2.1=(s.2.1+n - k) % n)∨(t.1=(s.2.1+n - k) % n∧t.2.1=(s.1+n - k) % n)
structure Tp (V S:List (Int×Int×Int)) (k c i:Int) (T:List (Int×Int×Int)):Prop where
 i0:0≤i
 i1:i≤aY S
 ln:(T.length:Int)=i
 g: ∀ j,0≤j→j < i→TC (aY V) k (cK S ((j+c) % aY S)) (cK T j)
theorem Tp.zero (V S:List (Int×Int×Int)) (k c:Int):Tp V S k c 0 []:=⟨Int.le_refl 0,Int.natCast_nonneg _,rfl,fun j h0 h1=>by omega⟩
theorem Tp.step {V S T:List (Int×Int×Int)} {k c i:Int} (h:Tp V S k c i T) (hi:i < aY S) {x:Int×Int×Int} (hx:TC (aY V) k (cK S ((i+c) % aY S)) x):Tp V S k c (i+1) (T++[x]):=by
 refine⟨by have:=h.i0;omega,by omega,by rw[List.length_append];have:=h.ln;show((T.length+1:Nat):Int)=i+1;omega,fun j h0 h1=>?_⟩
 have hl:=h.ln
 by_cases hj:j < i
 ·rw[Tn h0 (by omega)];exact h.g j h0 hj
 ·have:j=i:=by omega
  subst this
  rw[Tj hl.symm];exact hx
theorem Ts {n c:Int} (hn:0 < n):Ord n fun i=>(i+c) % n:=by
 have hr: ∀ a:Int,0≤a % n∧a % n < n:=fun a=>⟨Int.emod_nonneg _ (by omega),Int.emod_lt_of_pos _ hn⟩
 refine⟨fun i _ _=>hr _,fun i j i0 i1 j0 j1 h=>?_,fun j j0 j1=>⟨(j - c) % n,(hr _).1,(hr _).2,?_⟩⟩
 ·have h1:(i+c) % n=(j+c) % n:=h
  have h2:(i - j) % n=0:=by
   have:=Int.emod_emod_of_dvd
   have e:i - j=(i+c) - (j+c):=by omega
   rw[e,Int.sub_emod,h1,Int.sub_self,Int.zero_emod]
  obtain⟨q,hq⟩:=Int.dvd_of_emod_eq_zero h2
  have:q=0:=by
   rcases Int.lt_trichotomy q 0 with h | h | h
   ·have:n*q≤n*(-1):=Int.mul_le_mul_of_nonneg_left (by omega) (by omega)
    omega
   ·exact h
   ·have:n*1≤n*q:=Int.mul_le_mul_of_nonneg_left (by omega) (by omega)
    omega
  subst this
  omega
 ·show((j - c) % n+c) % n=j
  rw[Int.emod_add_emod,Int.sub_add_cancel,Int.emod_eq_of_lt j0 j1]
theorem Tx {V S R T:List (Int×Int×Int)} {k c:Int} (hV:0 < aY V) (hS:0 < aY S) (k0:0≤k) (k1:k < aY V) (c0:0≤c) (hR:To V k (aY V) R) (hT:Tp V S k c (aY S) T) :
  Tf V S R T (fun i=>(i+k) % aY V) (fun i=>(i+c) % aY S):=by
 have lr:R.length=V.length:=by have:=hR.ln;unfold aY at this;omega
 have lt:T.length=S.length:=by have:=hT.ln;unfold aY at this;omega
 have hr: ∀ a:Int,0≤a % aY V∧a % aY V < aY V:=fun a=>⟨Int.emod_nonneg _ (by omega),Int.emod_lt_of_pos _ hV⟩
 have back: ∀ a:Int,0≤a→a < aY V→((a+aY V - k) % aY V+k) % aY V=a:=fun a a0 a1=>by
  rw[Int.emod_add_emod,Int.sub_add_cancel,Int.add_emod_right,Int.emod_eq_of_lt a0 a1]
 have ov:=Ts (c:=k) hV
 have ee: ∀ i,0≤i→i < aY S→(((cK T i).1+k) % aY V=(cK S ((i+c) % aY S)).1∧((cK T i).2.1+k) % aY V=(cK S ((i+c) % aY S)).2.1)∨(((cK T i).1+k) % aY V=(cK S ((i+c) % aY S)).2.1∧((cK T i).2.1+k) % aY V=(cK S ((i+c) % aY S)).1):=fun i h0 h1=>by
  have g:=hT.g i h0 h1
  rcases g.e with ⟨e1,e2⟩ | ⟨e1,e2⟩
  ·exact .inl ⟨by rw[e1];exact back _ g.a.1 g.a.2,by rw[e2];exact back _ g.b.1 g.b.2⟩
  ·exact .inr ⟨by rw[e1];exact back _ g.b.1 g.b.2,by rw[e2];exact back _ g.a.1 g.a.2⟩
 have s1: ∀ i,0≤i→i < aY S→0≤(cK T i).1∧(cK T i).1 < aY V:=fun i h0 h1=>by
  rcases(hT.g i h0 h1).e with ⟨e1,e2⟩ | ⟨e1,e2⟩ <;> rw[e1] <;> exact hr _
 have s2: ∀ i,0≤i→i < aY S→0≤(cK T i).2.1∧(cK T i).2.1 < aY V:=fun i h0 h1=>by
  rcases(hT.g i h0 h1).e with ⟨e1,e2⟩ | ⟨e1,e2⟩ <;> rw[e2] <;> exact hr _
 refine⟨lr,lt,ov,Ts hS,hR.g,s1,s2,fun i h0 h1=>(hT.g i h0 h1).m,ee,fun v v0 v1 hm=>?_⟩
 have d1:=(Tr T v T.length (by omega)).1
 have d2:=(Tr S ((v+k) % aY V) S.length hm).1
 show sK T v T.length=sK S ((v+k) % aY V) S.length
 rw[d1,d2,lt]
 have rot:=Tw (fun i=>if tS (cK S i) ((v+k) % aY V)=true then 1 else 0) S.length c.toNat (by unfold aY at hS;omega)
 rw[← rot]
 refine congrArg _ (TH _ fun i hi=>?_)
 have i0:(0:Int)≤i:=by omega
 have i1:(i:Int) < aY S:=by unfold aY;omega
 have q: ∀ a,0≤a→a < aY V→(a=v↔(a+k) % aY V=(v+k) % aY V):=fun a a0 a1=>⟨fun h=>by rw[h],fun h=>ov.inj a v a0 a1 v0 v1 h⟩
 have ci:(((i+c.toNat) % S.length:Nat):Int)=((i:Int)+c) % aY S:=by
  unfold aY
  rw[Int.natCast_emod,Int.natCast_add,Int.toNat_of_nonneg c0]
 have he:tS (cK T i) v=tS (cK S (((i+c.toNat) % S.length:Nat):Int)) ((v+k) % aY V):=by
  rw[ci]
  have q1:=q _ (s1 i i0 i1).1 (s1 i i0 i1).2
  have q2:=q _ (s2 i i0 i1).1 (s2 i i0 i1).2
  unfold tS
  rcases ee i i0 i1 with ⟨e1,e2⟩ | ⟨e1,e2⟩ <;> rw[e1] at q1 <;> rw[e2] at q2 <;> rw[decide_eq_decide.2 q1,decide_eq_decide.2 q2]
  rw[Bool.or_comm]
 show(if tS (cK T i) v=true then 1 else 0)=(if tS (cK S (((i+c.toNat) % S.length:Nat):Int)) ((v+k) % aY V)=true then 1 else 0)
 rw[he]
end Go.Eng

