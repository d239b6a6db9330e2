
import Derived.Test.YtekohdfjkmdlpaaSpecU4
import Derived.Test.YtekohdfjkmdlpaaSpecLm
set_option linter.all false
set_option exponentiation.threshold 3000
namespace Go.Eng
set_option maxRecDepth 100000
set_option maxHeartbeats 2000000
def crP (P:Int→Pt) (u v w x:Int):Bool:=
 ((decide (w=u)||decide (w=v))&&(decide (x=u)||decide (x=v)))||((onP (P u) (P v) (P w)&& !(decide (w=u)||decide (w=v)))||(onP (P u) (P v) (P x)&& !(decide (x=u)||decide (x=v))))||
  ((onP (P w) (P x) (P u)&&(!decide (u=w)&& !decide (u=x)))||(onP (P w) (P x) (P v)&&(!decide (v=w)&& !decide (v=x))))||
  (decide (cZ (bB (P u) (P v) (P w)) 0*cZ (bB (P u) (P v) (P x)) 0 < 0)&&decide (cZ (bB (P w) (P x) (P u)) 0*cZ (bB (P w) (P x) (P v)) 0 < 0))
theorem kP {V S:List (Int×Int×Int)} (hb:pV V) (i j:Int):j4 V S i j=crP (ptV V) (cK S i).1 (cK S i).2.1 (cK S j).1 (cK S j).2.1:=by
 unfold j4 isEnd
 simp only[S2 hb,O0 hb,QK]
 rfl
theorem Ty: ∀ (a b c d e f g h i j:Bool),(a&&b)=false→(c&&d)=false→(a&&c)=false→(b&&d)=false→(((a||b)&&(c||d))||((e&& !(a||b))||(f&& !(c||d)))||((g&&(!a&& !c))||(h&&(!b&& !d)))||(i&&j))=(((a||c)&&(b||d))||((g&& !(a||c))||(h&& !(b||d)))||((e&&(!a&& !b))||(f&&(!c&& !d)))||(j&&i)):=by decide
theorem Tq (P:Int→Pt) (u v w x:Int):crP P u v w x=crP P v u w x:=by
 unfold crP
 rw[wF (P v) (P u) (P w),wF (P v) (P u) (P x),sI (P u) (P v) (P w),sI (P u) (P v) (P x),Tt,Tt,Int.neg_mul_neg,Int.mul_comm (cZ (bB (P w) (P x) (P v)) 0),Bool.or_comm (decide (w=v)),Bool.or_comm (decide (x=v)),Bool.or_comm (onP (P w) (P x) (P v)&&_)]
theorem Tm (P:Int→Pt) (u v w x:Int) (h1:u≠v) (h2:w≠x):crP P u v w x=crP P w x u v:=by
 have f: ∀ p q:Int,decide (p=q)=decide (q=p):=fun p q=>decide_eq_decide.2 eq_comm
 unfold crP
 rw[f u w,f u x,f v w,f v x]
 refine Ty _ _ _ _ _ _ _ _ _ _ ?_ ?_ ?_ ?_
 all_goals (rw[Bool.and_eq_false_iff,decide_eq_false_iff_not,decide_eq_false_iff_not];omega)
theorem Tu (P:Int→Pt) (u v w x:Int) (h1:u≠v) (h2:w≠x):crP P u v w x=crP P u v x w:=by
 rw[Tm P u v w x h1 h2,Tq,Tm P x w u v (fun h=>h2 h.symm) h1]
theorem Tv (P:Int→Pt) (σ:Int→Int) (u v w x:Int) (e1:σ w=σ u→w=u) (e2:σ w=σ v→w=v) (e3:σ x=σ u→x=u) (e4:σ x=σ v→x=v):crP (fun i=>P (σ i)) u v w x=crP P (σ u) (σ v) (σ w) (σ x):=by
 have f: ∀ p q:Int,(σ p=σ q→p=q)→decide (p=q)=decide (σ p=σ q):=fun p q h=>decide_eq_decide.2 ⟨fun h'=>by rw[h'],h⟩
 unfold crP
 rw[f w u e1,f w v e2,f x u e3,f x v e4,f u w (fun h=>(e1 h.symm).symm),f u x (fun h=>(e3 h.symm).symm),f v w (fun h=>(e2 h.symm).symm),f v x (fun h=>(e4 h.symm).symm)]
structure Ord (n:Int) (σ:Int→Int):Prop where
 r: ∀ i,0≤i→i < n→0≤σ i∧σ i < n
 inj: ∀ i j,0≤i→i < n→0≤j→j < n→σ i=σ j→i=j
 sur: ∀ j,0≤j→j < n→ ∃ i,0≤i∧i < n∧σ i=j
theorem Td {n:Int} {σ:Int→Int} (h:Ord n σ) {p q:Int→Bool} (e: ∀ i,0≤i→i < n→p i=q (σ i)):cY n p=cY n q:=by
 rw[Bool.eq_iff_iff,mH,mH]
 constructor
 ·rintro⟨i,h0,h1,h2⟩
  exact⟨σ i,(h.r i h0 h1).1,(h.r i h0 h1).2,by rw[← e i h0 h1];exact h2⟩
 ·rintro⟨j,h0,h1,h2⟩
  obtain⟨i,g0,g1,rfl⟩:=h.sur j h0 h1
  exact⟨i,g0,g1,by rw[e i g0 g1];exact h2⟩
theorem Th {n:Int} {p:Int→Int→Bool} (s: ∀ i j,0≤i→i < n→0≤j→j < n→p i j=p j i):cY n (fun i=>cY i fun j=>p i j)=true↔ ∃ i j,0≤i∧i < n∧0≤j∧j < n∧i≠j∧p i j=true:=by
 rw[mH]
 constructor
 ·rintro⟨i,h0,h1,h2⟩
  obtain⟨j,g0,g1,g2⟩:=mH.1 h2
  exact⟨i,j,h0,h1,g0,by omega,by omega,g2⟩
 ·rintro⟨i,j,h0,h1,g0,g1,hn,h2⟩
  rcases Int.lt_or_gt_of_ne hn with hl | hl
  ·exact⟨j,g0,g1,mH.2 ⟨i,h0,hl,by rw[s j i g0 g1 h0 h1];exact h2⟩⟩
  ·exact⟨i,h0,h1,mH.2 ⟨j,g0,hl,h2⟩⟩
theorem Ti {n:Int} {σ:Int→Int} (h:Ord n σ) {p q:Int→Int→Bool} (sp: ∀ i j,0≤i→i < n→0≤j→j < n→p i j=p j i) (sq: ∀ i j,0≤i→i < n→0≤j→j < n→q i j=q j i) (e: ∀ i j,0≤i→i < n→0≤j→j < n→p i j=q (σ i) (σ j)):cY n (fun i=>cY i fun j=>p i j)=cY n (fun i=>cY i fun j=>q i j):=by
 rw[Bool.eq_iff_iff,Th sp,Th sq]
 constructor
 ·rintro⟨i,j,h0,h1,g0,g1,hn,h2⟩
  exact⟨σ i,σ j,(h.r i h0 h1).1,(h.r i h0 h1).2,(h.r j g0 g1).1,(h.r j g0 g1).2,fun hh=>hn (h.inj i j h0 h1 g0 g1 hh),by rw[← e i j h0 h1 g0 g1];exact h2⟩
 ·rintro⟨i,j,h0,h1,g0,g1,hn,h2⟩
  obtain⟨i',a0,a1,rfl⟩:=h.sur i h0 h1
  obtain⟨j',b0,b1,rfl⟩:=h.sur j g0 g1
  exact⟨i',j',a0,a1,b0,b1,fun hh=>hn (by rw[hh]),by rw[e i' j' a0 a1 b0 b1];exact h2⟩
def smN (f:Nat→Nat):Nat→Nat
 | 0=>0
 | k+1=>smN f k+f k
structure Tf (V S V' S':List (Int×Int×Int)) (σ τ:Int→Int):Prop where
 n:V'.length=V.length
 m:S'.length=S.length
 o:Ord (aY V) σ
 p:Ord (aY S) τ
 v: ∀ i,0≤i→i < aY V→cK V' i=cK V (σ i)
 s1: ∀ i,0≤i→i < aY S→0≤(cK S' i).1∧(cK S' i).1 < aY V
 s2: ∀ i,0≤i→i < aY S→0≤(cK S' i).2.1∧(cK S' i).2.1 < aY V
 k: ∀ i,0≤i→i < aY S→(cK S' i).2.2=(cK S (τ i)).2.2
 e: ∀ i,0≤i→i < aY S→(σ (cK S' i).1=(cK S (τ i)).1∧σ (cK S' i).2.1=(cK S (τ i)).2.1)∨(σ (cK S' i).1=(cK S (τ i)).2.1∧σ (cK S' i).2.1=(cK S (τ i)).1)
 d: ∀ v,0≤v→v < aY V→(S.length≤1000)→sK S' v S'.length=sK S (σ v) S.length
section
variable {V S V' S':List (Int×Int×Int)} {σ τ:Int→Int}
theorem Tf.ln (t:Tf V S V' S' σ τ):aY V'=aY V∧aY S'=aY S:=⟨by unfold aY;rw[t.n],by unfold aY;rw[t.m]⟩
theorem Tf.has (t:Tf V S V' S' σ τ) {i:Int} (h0:0≤i) (h1:i < aY V):axV V' i=axV V (σ i)∧ayV V' i=ayV V (σ i):=by
 have h:=t.o.r i h0 h1
 obtain⟨_,a1,a2⟩:=HR h0 (show i < aY V' by rw[t.ln.1];exact h1)
 obtain⟨_,b1,b2⟩:=HR h.1 h.2
 rw[a1,a2,b1,b2,t.v i h0 h1]
 exact⟨rfl,rfl⟩
theorem Tf.pt (t:Tf V S V' S' σ τ) {i:Int} (h0:0≤i) (h1:i < aY V):ptV V' i=ptV V (σ i):=by
 unfold ptV;rw[(t.has h0 h1).1,(t.has h0 h1).2]
theorem Tf.form (t:Tf V S V' S' σ τ) (l:List Pt):iO V' S' l=iO V S l:=by
 unfold iO pB
 rw[t.ln.1,t.ln.2]
 rw[Td t.o (p:=Cd V') (q:=Cd V) fun i h0 h1=>by unfold Cd;rw[t.v i h0 h1]]
 rw[Td t.p (p:=zC V' S') (q:=zC V S) fun i h0 h1=>by
  have h1':=t.s1 i h0 h1
  have h2':=t.s2 i h0 h1
  have r1:=t.o.r _ h1'.1 h1'.2
  have r2:=t.o.r _ h2'.1 h2'.2
  have hh: ∀ W:List (Int×Int×Int), ∀ j,0≤j→j < aY W→nS W j=true:=fun W j a b=>by unfold nS;rw[decide_eq_true a,decide_eq_true b];rfl
  unfold zC
  rw[hh V' _ h1'.1 (by rw[t.ln.1];exact h1'.2),hh V' _ h2'.1 (by rw[t.ln.1];exact h2'.2),t.k i h0 h1]
  have hi:σ (cK S' i).1=σ (cK S' i).2.1↔(cK S' i).1=(cK S' i).2.1:=⟨fun h=>t.o.inj _ _ h1'.1 h1'.2 h2'.1 h2'.2 h,fun h=>by rw[h]⟩
  rcases t.e i h0 h1 with ⟨e1,e2⟩ | ⟨e1,e2⟩
  ·rw[← e1, ← e2,hh V _ r1.1 r1.2,hh V _ r2.1 r2.2,decide_eq_decide.2 hi]
  ·rw[← e1, ← e2,hh V _ r1.1 r1.2,hh V _ r2.1 r2.2,decide_eq_decide.2 (eq_comm.trans hi)]]
theorem Tf.bound (t:Tf V S V' S' σ τ):sE V'=sE V:=by
 unfold sE
 rw[t.ln.1,Td t.o (q:=fun k=>Fe (cK V k)) fun i h0 h1=>by rw[t.v i h0 h1]]
theorem Tf.twin (t:Tf V S V' S' σ τ):yY V'=yY V:=by
 unfold yY
 rw[t.ln.1]
 have s: ∀ W i j,vE W i j=vE W j i:=fun W i j=>by unfold vE;rw[decide_eq_decide.2 (eq_comm (a:=axV W i)),decide_eq_decide.2 (eq_comm (a:=ayV W i))]
 exact Ti t.o (fun i j _ _ _ _=>s V' i j) (fun i j _ _ _ _=>s V i j) fun i j h0 h1 g0 g1=>by
  unfold vE;rw[(t.has h0 h1).1,(t.has h0 h1).2,(t.has g0 g1).1,(t.has g0 g1).2]
theorem Tf.loop (t:Tf V S V' S' σ τ) (hs:Fj V S) (hs':Fj V' S') (hm:S.length≤1000):uQ V' S'=uQ V S:=by
 rw[FT hs,FT hs',t.ln.1]
 rw[Td t.o (q:=fun k=>decide (sK S k S.length≠2)) fun i h0 h1=>by rw[t.d i h0 h1 hm]]
theorem Tf.cross (t:Tf V S V' S' σ τ) (hb:pV V) (hb':pV V') (hs:Fj V S) (hs':Fj V' S'):tZ V' S'=tZ V S:=by
 unfold tZ
 rw[t.ln.2]
 refine Ti t.p (fun i j h0 h1 g0 g1=>?_) (fun i j h0 h1 g0 g1=>?_) fun i j h0 h1 g0 g1=>?_
 ·rw[kP hb',kP hb',Tm _ _ _ _ _ (hs'.ne i h0 (by rw[t.ln.2];exact h1)) (hs'.ne j g0 (by rw[t.ln.2];exact g1))]
 ·rw[kP hb,kP hb,Tm _ _ _ _ _ (hs.ne i h0 h1) (hs.ne j g0 g1)]
 ·have a1:=t.s1 i h0 h1
  have a2:=t.s2 i h0 h1
  have b1:=t.s1 j g0 g1
  have b2:=t.s2 j g0 g1
  have ri:=t.p.r i h0 h1
  have rj:=t.p.r j g0 g1
  have ni:=hs.ne _ ri.1 ri.2
  have nj:=hs.ne _ rj.1 rj.2
  rw[kP hb',kP hb]
  have e: ∀ u v w x:Int,ptV V' u=ptV V (σ u)→ptV V' v=ptV V (σ v)→ptV V' w=ptV V (σ w)→ptV V' x=ptV V (σ x)→crP (ptV V') u v w x=crP (fun i=>ptV V (σ i)) u v w x:=fun u v w x q1 q2 q3 q4=>by
   unfold crP;rw[q1,q2,q3,q4]
  rw[e _ _ _ _ (t.pt a1.1 a1.2) (t.pt a2.1 a2.2) (t.pt b1.1 b1.2) (t.pt b2.1 b2.2)]
  rw[Tv (ptV V) σ _ _ _ _ (t.o.inj _ _ b1.1 b1.2 a1.1 a1.2) (t.o.inj _ _ b1.1 b1.2 a2.1 a2.2) (t.o.inj _ _ b2.1 b2.2 a1.1 a1.2) (t.o.inj _ _ b2.1 b2.2 a2.1 a2.2)]
  rcases t.e i h0 h1 with ⟨e1,e2⟩ | ⟨e1,e2⟩ <;> rcases t.e j g0 g1 with ⟨e3,e4⟩ | ⟨e3,e4⟩ <;> rw[e1,e2,e3,e4]
  ·rw[Tu _ _ _ _ _ ni (Ne.symm nj)]
  ·rw[Tq]
  ·rw[Tq,Tu _ _ _ _ _ ni (Ne.symm nj)]
theorem Tf.hole (t:Tf V S V' S' σ τ) (p:Pt):qQ V' S' p=qQ V S p:=by
 unfold qQ
 rw[t.ln.2]
 rw[Td t.p (p:=Di V' S' p) (q:=Di V S p) fun i h0 h1=>by
  have a1:=t.s1 i h0 h1
  have a2:=t.s2 i h0 h1
  unfold Di
  rw[t.pt a1.1 a1.2,t.pt a2.1 a2.2]
  rcases t.e i h0 h1 with ⟨e1,e2⟩ | ⟨e1,e2⟩ <;> rw[e1,e2]
  have h1: ∀ a b:Pt,bD.all [a,b,p]=bD.all [b,a,p]:=fun a b=>by
   show(dJ a&&(dJ b&&(dJ p&&true)))=(dJ b&&(dJ a&&(dJ p&&true)))
   cases dJ a <;> cases dJ b <;> rfl
  have h2: ∀ a b:Pt,kM.on a b p=kM.on b a p:=fun a b=>wF a b p
  rw[h1,h2]]
theorem Tf.check (t:Tf V S V' S' σ τ) (l:List Pt):Cm V' S' l=Cm V S l:=by
 unfold Cm
 rw[t.form l,t.bound,t.twin]
 cases hf:iO V S l
 ·rfl
 cases hb:sE V
 ·rfl
 cases ht:yY V
 rotate_left
 ·rfl
 simp only[Bool.not_true,Bool.false_eq_true,if_false]
 have hs:=G8 hf
 have hs':=G8 ((t.form l).trans hf)
 have hm:S.length≤1000:=by
  unfold iO pB aY at hf
  simp only[Bool.and_eq_true,Bool.not_eq_true',Bool.or_eq_false_iff,decide_eq_false_iff_not] at hf
  omega
 rw[t.loop hs hs' hm,t.cross (M2 hb) (M2 (t.bound.trans hb)) hs hs']
 have:(cY (aY l) fun k=> !qQ V' S' (pC l k))=cY (aY l) fun k=> !qQ V S (pC l k):=fC fun k _ _=>by rw[t.hole]
 rw[this]
end
end Go.Eng

