
import Derived.Test.YtdbmppedhaipoaaGreatZCVA
import Derived.Test.YtdbmppedhaipoaaGreatEngMW
set_option linter.all false
set_option exponentiation.threshold 3000
set_option maxRecDepth 100000
set_option maxHeartbeats 2000000
namespace Go.Eng
open Go.Proofs
def Pq (H:SH) (J:SJ):List CV→List Blk→Option LR
 | [.g [.P a], .g [.P b], .g [.P p]],[]=>some ⟨[H.all [a,b,p]], .c (.s (.bool (J.on a b p))),[]⟩
 | _,_=>none
theorem Li {q:Rat} :decide (cZ q 0≤0)=decide (q≤0):=by
 rw[decide_eq_decide]
 rcases dH q 0 with ⟨h,e,_⟩ | ⟨h,e,_⟩ | ⟨h,e,_⟩ <;> rw[e]
 ·exact⟨fun _=>by grind,fun _=>by decide⟩
 ·exact⟨fun _=>by grind,fun _=>by decide⟩
 ·exact⟨fun h=>absurd h (by decide),fun h'=>by exfalso;grind⟩
theorem QD {a b p:Pt} (A:Alg) (hA:A=aA) (F:SF) (hF:F=aO) (H:SH) (hH:H=bD) (J:SJ) (hJ:J=kM) (h:H.all [a,b,p]=true) :
  A.ite (A.cmp .eql (H.turn a b p) 0) (A.cmp .leq (F.sign (H.dot p a b)) 0) false=J.on a b p:=by
 subst hA hF hH hJ
 have h:dX [a,b,p]=true:=h
 obtain⟨ha,hb,hp⟩:=fV h
 rw[Aq,if_pos (AL (fJ.2 hp) (fJ.2 ha) (fJ.2 hb)),kN h]
 show(if(cZ (bB a b p) 0 == 0)=true then decide (cZ (gY p a b) 0≤0) else false)=(decide (bB a b p=0)&&decide (gY p a b≤0))
 rw[Li]
 by_cases hc:bB a b p=0
 ·rw[hc,jF.2 rfl];simp
 ·rw[beq_eq_false_iff_ne.2 fun h=>hc (jF.1 h),decide_eq_false hc];rfl
def tL1 (A:Alg) (F:SF) (H:SH):List (Nat×bU):=(87,aC [.v, .v, .v] A (zO H)) :: (59,aC [.v, .v, .v] A (CT H)) :: (60,aC [.v] A (lQ F)) :: ([])
theorem Q5:COK Tryz.prog (aN (tL1 aA aO bD)):=aB Aa (aB yK (aB nI (bC)))
theorem H0:aJ Tryz.prog 86 (aC [.v, .v, .v] aA (Pq bD kM)):=by
 refine aH (un:=⟨false,some [3,4,5,6,7,8,9,10]⟩) tok Q5 aL (fn:=Tryz.f86) ?_
 intro w Wr args bs r hg ho hWr A L k hA hL hk
 obtain⟨F,hF⟩:=exE aO
 obtain⟨H,hH⟩:=exE bD
 obtain⟨J,hJ⟩:=exE kM
 try rw[← hF]
 try rw[← hH]
 try rw[← hJ]
 try rw[← hA]
 unfold Pq at hg
 split at hg <;> cases hg
 rename_i a b p
 have h0:=(aG ho).1
 clear ho
 rw[← hH] at h0
 have of:=QD A hA F hF H hH J hJ h0
 cbv
 refine hk _ _ (bE.pure rfl fun ρ=>?_)
 subst hJ
 exact yQ of
theorem QF {a b p:Pt} (A:Alg) (hA:A=aA) (H:SH) (hH:H=bD):A.ite (A.ite (A.not (H.all [a])) true (A.not (H.all [b]))) true (A.not (H.all [p]))=A.not (H.all [a,b,p]):=by
 subst hA hH
 show(if(if(!(dJ a&&true))=true then true else !(dJ b&&true))=true then true else !(dJ p&&true))= !(dJ a&&(dJ b&&(dJ p&&true)))
 cases dJ a <;> cases dJ b <;> cases dJ p <;> rfl
def tL2 (A:Alg) (H:SH) (J:SJ):List (Nat×bU):=(19,aC [.v] A (C1 H)) :: (86,aC [.v, .v, .v] A (Pq H J)) :: ([])
theorem Q6:COK Tryz.prog (aN (tL2 aA bD kM)):=aB z9 (aB H0 (bC))
theorem N6:aJ Tryz.prog 64 (aC [.v, .v, .v] aA (Mn aA bD kM)):=by
 refine aH (un:=⟨false,some [3,4,5,6,7,20]⟩) tok Q6 aL (fn:=Tryz.f64) ?_
 intro w Wr args bs r hg ho hWr A L k hA hL hk
 obtain⟨H,hH⟩:=exE bD
 obtain⟨J,hJ⟩:=exE kM
 try rw[← hH]
 try rw[← hJ]
 try rw[← hA]
 unfold Mn at hg
 split at hg <;> cases hg
 rename_i a b p
 have of:=Ob hA (o:=H.all [a,b,p]) (c:=J.on a b p)
 have ec:=QF (a:=a) (b:=b) (p:=p) A hA H hH
 cbv
 repeat' with_reducible first | (intro hb;cbv) | refine UM ?_ ?_
 ·rw[ec] at hb
  have e:=of.1 hb
  refine hk _ _ (bE.pure rfl fun ρ=>?_)
  subst hA hH hJ
  exact OZ e.1 e.2
 ·rw[ec] at hb
  exact(of.2 hb).2.symm
 ·rw[ec] at hb
  have e:=of.2 hb
  refine hk _ _ (bE.pure rfl fun ρ=>?_)
  subst hA hH hJ
  exact OW e.1 e.2
def gCr (H:SH) (J:SJ):List CV→List Blk→Option LR
 | [.g [.P a], .g [.P b], .g [.P c], .g [.P d]],[]=>some ⟨[H.all [a,b,c,d]], .c (.s (.bool (J.cr a b c d))),[]⟩
 | _,_=>none
structure CrQ (A:Alg) (H:SH) (J:SJ) (a b c d:Pt):Prop where
 o1:H.all [a,b,c]=true
 o2:H.all [a,b,d]=true
 o3:H.all [c,d,a]=true
 o4:H.all [c,d,b]=true
 v:A.ite (A.ite (A.ite (A.ite (J.on a b c) true (J.on a b d)) true (J.on c d a)) true (J.on c d b)) true (A.ite (A.cmp .lss (A.bin .mul .i64 (H.turn a b c) (H.turn a b d)) 0) (A.cmp .lss (A.bin .mul .i64 (H.turn c d a) (H.turn c d b)) 0) false)=J.cr a b c d
theorem PI {a b c d:Pt} (A:Alg) (hA:A=aA) (H:SH) (hH:H=bD) (J:SJ) (hJ:J=kM) (h:H.all [a,b,c,d]=true):CrQ A H J a b c d:=by
 subst hA hH hJ
 obtain⟨ha,hb,hc,hd⟩:=Pp h
 refine⟨AL ha hb hc,AL ha hb hd,AL hc hd ha,AL hc hd hb,?_⟩
 rw[AU a b c d h]
 show(if(if(if(if onP a b c=true then true else onP a b d)=true then true else onP c d a)=true then true else onP c d b)=true then true else cJ a b c d)=(anyP a b c d||cJ a b c d)
 unfold anyP
 cases onP a b c <;> cases onP a b d <;> cases onP c d a <;> cases onP c d b <;> cases cJ a b c d <;> rfl
def tL3 (A:Alg) (H:SH) (J:SJ):List (Nat×bU):=(86,aC [.v, .v, .v] A (Pq H J)) :: (58,aC [.v, .v, .v] A (zN H)) :: ([])
theorem Q7:COK Tryz.prog (aN (tL3 aA bD kM)):=aB H0 (aB DT (bC))
theorem N7:aJ Tryz.prog 57 (aC [.v, .v, .v, .v] aA (gCr bD kM)):=by
 refine aH (un:=⟨false,some [4,5,6,7,8]⟩) tok Q7 aL (fn:=Tryz.f57) ?_
 intro w Wr args bs r hg ho hWr A L k hA hL hk
 obtain⟨H,hH⟩:=exE bD
 obtain⟨J,hJ⟩:=exE kM
 try rw[← hH]
 try rw[← hJ]
 try rw[← hA]
 unfold gCr at hg
 split at hg <;> cases hg
 rename_i a b c d
 have h0:=(aG ho).1
 clear ho
 rw[← hH] at h0
 have cf:=PI A hA H hH J hJ h0
 cbv
 repeat' with_reducible first | (intro hb;cbv) | refine UM ?_ ?_
 all_goals first | exact cf.o1 | exact v4 hA cf.o1 | exact v4 hA cf.o2 | exact v4 hA cf.o3 | exact v4 hA cf.o4 | skip
 refine hk _ _ (bE.pure rfl fun ρ=>?_)
 have e:=cf.v
 subst hA hH hJ
 exact yQ e
def Og (b1 b2 b3 b4:Bool) (a b c d:Pt):Int×Pt×Pt×Pt:=
 let s0:Int×Pt×Pt×Pt:=(0,a,b,d)
 let s1:=match b1 with | true=>(s0.1+1,a,b,d) | false=>s0
 let s2:=match b2 with | true=>(s1.1+1,b,a,d) | false=>s1
 let s3:=match b3 with | true=>(s2.1+1,a,b,c) | false=>s2
 match b4 with | true=>(s3.1+1,b,a,c) | false=>s3
theorem Eb (a b c d:Pt):gZ a b c d=Og (aA.eqP a c) (aA.eqP b c) (aA.eqP a d) (aA.eqP b d) a b c d:=by
 unfold gZ Og
 rw[nV,nV,nV,nV]
 by_cases h1:a=c <;> by_cases h2:b=c <;> by_cases h3:a=d <;> by_cases h4:b=d <;> simp only[h1,h2,h3,h4,if_true,if_false,decide_true,decide_false]
 all_goals simp_all
def RN (b1 b2 b3 b4:Bool):Int:=(match b1 with | true=>1 | false=>0)+(match b2 with | true=>1 | false=>0)+(match b3 with | true=>1 | false=>0)+(match b4 with | true=>1 | false=>0)
theorem K8 (b1 b2 b3 b4:Bool) (a b c d:Pt):(Og b1 b2 b3 b4 a b c d).1=RN b1 b2 b3 b4:=by
 cases b1 <;> cases b2 <;> cases b3 <;> cases b4 <;> rfl
def q0C (A:Alg) (H:SH) (a b c d:Pt):Bool:=A.ite (A.ite (A.ite (A.not (H.all [a])) true (A.not (H.all [b]))) true (A.not (H.all [c]))) true (A.not (H.all [d]))
def q97 (A:Alg) (H:SH) (a b c d:Pt):Bool:=A.ite (A.ite (A.ite (A.eqP a b) true (A.eqP c d)) true (A.cmp .neq (H.turn a b c) 0)) true (A.cmp .neq (H.turn a b d) 0)
structure QL (A:Alg) (F:SF) (H:SH) (J:SJ) (a b c d:Pt) (n:Int) (s:Int×Pt×Pt×Pt):Prop where
 z:n=0→2=J.meet a b c d
 y:n≠0→q97 A H a b c d=true→1=J.meet a b c d
 o:n=1→q97 A H a b c d=false→A.cmp .lss (F.sign (H.dot s.2.1 s.2.2.1 s.2.2.2)) 0=true→1=J.meet a b c d
 t:n=1→q97 A H a b c d=false→A.cmp .lss (F.sign (H.dot s.2.1 s.2.2.1 s.2.2.2)) 0=false→2=J.meet a b c d
 w:n≠0→n≠1→q97 A H a b c d=false→2=J.meet a b c d
structure QmF (A:Alg) (F:SF) (H:SH) (J:SJ) (a b c d:Pt):Prop where
 no:q0C A H a b c d=true→0=J.meet a b c d∧false=H.all [a,b,c,d]
 ok:q0C A H a b c d=false→true=H.all [a,b,c,d]
 z:q0C A H a b c d=false→A.not (J.cr a b c d)=true→0=J.meet a b c d
 v: ∀ b1 b2 b3 b4,q0C A H a b c d=false→A.not (J.cr a b c d)=false→A.eqP a c=b1→A.eqP b c=b2→A.eqP a d=b3→A.eqP b d=b4→QL A F H J a b c d (RN b1 b2 b3 b4) (Og b1 b2 b3 b4 a b c d)
theorem Lj {q:Rat} :decide (cZ q 0 < 0)=decide (q < 0):=by
 rw[decide_eq_decide]
 rcases dH q 0 with ⟨h,e,_⟩ | ⟨h,e,_⟩ | ⟨h,e,_⟩ <;> rw[e]
 ·exact⟨fun _=>h,fun _=>by decide⟩
 ·exact⟨fun h'=>absurd h' (by decide),fun h'=>by exfalso;grind⟩
 ·exact⟨fun h'=>absurd h' (by decide),fun h'=>by exfalso;grind⟩
theorem G2 (a b c d:Pt):((gZ a b c d).2.1=a∨(gZ a b c d).2.1=b)∧((gZ a b c d).2.2.1=a∨(gZ a b c d).2.2.1=b)∧((gZ a b c d).2.2.2=c∨(gZ a b c d).2.2.2=d):=by
 rw[Eb]
 generalize aA.eqP a c=b1
 generalize aA.eqP b c=b2
 generalize aA.eqP a d=b3
 generalize aA.eqP b d=b4
 cases b1 <;> cases b2 <;> cases b3 <;> cases b4 <;> simp[Og]
theorem S5 (a b c d:Pt) (A:Alg) (hA:A=aA) (F:SF) (hF:F=aO) (H:SH) (hH:H=bD) (J:SJ) (hJ:J=kM):QmF A F H J a b c d:=by
 subst hA hF hH hJ
 have hc:q0C aA bD a b c d= !dX [a,b,c,d]:=by
  show(if(if(if(!(dJ a&&true))=true then true else !(dJ b&&true))=true then true else !(dJ c&&true))=true then true else !(dJ d&&true))= !(dJ a&&(dJ b&&(dJ c&&(dJ d&&true))))
  cases dJ a <;> cases dJ b <;> cases dJ c <;> cases dJ d <;> rfl
 have em: ∀ c',dX [a,b,c,d]=c'→kM.meet a b c d=if c' then lL a b c d else 0:=fun c' h=>by
  show(if dX [a,b,c,d]=true then _ else _)=_
  rw[h]
 have hcr:aA.not (kM.cr a b c d)= !(anyP a b c d||cJ a b c d):=rfl
 have rm:dX [a,b,c,d]=true→kM.meet a b c d=Oh a b c d:=fun h=>by
  obtain⟨ha,hb,hc,hd⟩:=Pp h
  rw[em _ h,G3 (e9 ha) (e9 hb) (e9 hc) (e9 hd)];rfl
 refine⟨fun h=>?_,fun h=>?_,fun h h1=>?_,fun b1 b2 b3 b4 h h1 e1 e2 e3 e4=>?_⟩
 ·rw[hc,Bool.not_eq_true'] at h
  exact⟨(em _ h).symm,h.symm⟩
 ·rw[hc,Bool.not_eq_false'] at h
  exact h.symm
 ·rw[hc,Bool.not_eq_false'] at h
  rw[hcr] at h1
  rw[rm h]
  unfold Oh
  rw[if_pos h1]
 ·rw[hc,Bool.not_eq_false'] at h
  rw[hcr] at h1
  obtain⟨ha,hb,hc',hd⟩:=Pp h
  have hr:=Eb a b c d
  rw[e1,e2,e3,e4] at hr
  rw[← K8 b1 b2 b3 b4 a b c d, ← hr]
  have e:=rm h
  unfold Oh at e
  rw[h1] at e
  simp only[Bool.false_eq_true,if_false] at e
  have q:q97 aA bD a b c d=decide (a=b∨c=d∨bB a b c≠0∨bB a b d≠0):=by
   unfold q97
   rw[kN (AL ha hb hc'),kN (AL ha hb hd),nV,nV]
   have t: ∀ x:Rat,aA.cmp .neq (cZ x 0) 0=decide (x≠0):=fun x=>by
    show(cZ x 0 != 0)=_
    by_cases hx:x=0
    ·rw[hx,jF.2 rfl];simp
    ·rw[decide_eq_true hx,bne_iff_ne];exact fun h=>hx (jF.1 h)
   rw[t,t]
   show(if(if(if decide (a=b)=true then true else decide (c=d))=true then true else decide (bB a b c≠0))=true then true else decide (bB a b d≠0))=_
   by_cases g1:a=b <;> by_cases g2:c=d <;> by_cases g3:bB a b c=0 <;> by_cases g4:bB a b d=0 <;> simp[g1,g2,g3,g4]
  obtain⟨m1,m2,m3⟩:=G2 a b c d
  have hall:dX [(gZ a b c d).2.1,(gZ a b c d).2.2.1,(gZ a b c d).2.2.2]=true:=by
   refine AL ?_ ?_ ?_
   ·rcases m1 with m | m <;> rw[m] <;> assumption
   ·rcases m2 with m | m <;> rw[m] <;> assumption
   ·rcases m3 with m | m <;> rw[m] <;> assumption
  have hs:aA.cmp .lss (aO.sign (bD.dot (gZ a b c d).2.1 (gZ a b c d).2.2.1 (gZ a b c d).2.2.2)) 0=decide (gY (gZ a b c d).2.1 (gZ a b c d).2.2.1 (gZ a b c d).2.2.2 < 0):=by
   rw[Aq,if_pos hall]
   exact Lj
  refine⟨fun z=>?_,fun z y=>?_,fun z y o=>?_,fun z y o=>?_,fun z w y=>?_⟩
  ·rw[e,if_pos z]
  ·rw[q,decide_eq_true_eq] at y
   rw[e,if_neg z,if_pos y]
  ·rw[q,decide_eq_false_iff_not] at y
   rw[hs,decide_eq_true_eq] at o
   rw[e,if_neg (by omega),if_neg y,if_pos ⟨z,o⟩]
  ·rw[q,decide_eq_false_iff_not] at y
   rw[hs,decide_eq_false_iff_not] at o
   rw[e,if_neg (by omega),if_neg y,if_neg fun h=>o h.2]
  ·rw[q,decide_eq_false_iff_not] at y
   rw[e,if_neg z,if_neg y,if_neg fun h=>w h.1]
def tL4 (A:Alg) (F:SF) (H:SH) (J:SJ):List (Nat×bU):=(19,aC [.v] A (C1 H)) :: (57,aC [.v, .v, .v, .v] A (gCr H J)) :: (58,aC [.v, .v, .v] A (zN H)) :: (59,aC [.v, .v, .v] A (CT H)) :: (60,aC [.v] A (lQ F)) :: ([])
theorem Q8:COK Tryz.prog (aN (tL4 aA aO bD kM)):=aB z9 (aB N7 (aB DT (aB yK (aB nI (bC)))))
theorem Gp:aJ Tryz.prog 33 (aC [.v, .v, .v, .v] aA (JD bD kM)):=by
 refine aH (un:=⟨true,some [4,5,6,7,8,9,10,11,12,13,14,15,16,17,18,19,20,38,44,49,58,63,68,75,97,111]⟩) tok Q8 aL (fn:=Tryz.f33) ?_
 intro w Wr args bs r hg ho hWr A L k hA hL hk
 obtain⟨F,hF⟩:=exE aO
 obtain⟨H,hH⟩:=exE bD
 obtain⟨J,hJ⟩:=exE kM
 try rw[← hF]
 try rw[← hH]
 try rw[← hJ]
 try rw[← hA]
 unfold JD at hg
 split at hg <;> cases hg
 rename_i a b c d
 have qm:=S5 a b c d A hA F hF H hH J hJ
 cbv
 repeat' with_reducible first | (intro hb;cbv) | refine UM ?_ ?_
 ·have e:=qm.no hb
  refine hk _ _ (bE.pure rfl fun ρ=>?_)
  subst hH hJ
  exact rR e.1 e.2
 ·exact(qm.ok (by assumption)).symm
 ·rename_i h0
  have e:=qm.z h0 hb
  have e2:=qm.ok h0
  refine hk _ _ (bE.pure rfl fun ρ=>?_)
  subst hH hJ
  exact rR e e2
 all_goals
  have ql:=qm.v _ _ _ _ (by assumption) (by assumption) (by assumption) (by assumption) (by assumption) (by assumption)
  have ok:=qm.ok (by assumption)
  refine hk _ _ (bE.pure rfl fun ρ=>?_)
  clear qm hk hL ho hWr
  (try subst hH)
  (try subst hJ)
  refine rR ?_ ok
  first | exact ql.z rfl | exact ql.y (by decide) (by assumption) | exact ql.o rfl (by assumption) (by assumption) | exact ql.t rfl (by assumption) (by assumption) | exact ql.w (by decide) (by decide) (by assumption)
end Go.Eng
