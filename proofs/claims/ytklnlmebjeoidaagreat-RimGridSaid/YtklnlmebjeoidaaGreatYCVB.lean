
import Derived.Test.YtklnlmebjeoidaaGreatYCVA
import Derived.Test.YtklnlmebjeoidaaGreatEngMW
set_option linter.all false
set_option exponentiation.threshold 3000
set_option maxRecDepth 100000
set_option maxHeartbeats 2000000
namespace Go.Eng
open Go.Proofs
def Pq (H:SH) (J:SJ):List CV→List Blk→Option LR
 | [.g [.P a], .g [.P b], .g [.P p]],[]=>some ⟨[H.all [a,b,p]], .c (.s (.bool (J.on a b p))),[]⟩
 | _,_=>none
theorem Li {q:Rat} :decide (cZ q 0≤0)=decide (q≤0):=by
 rw[decide_eq_decide]
 rcases dH q 0 with ⟨h,e,_⟩ | ⟨h,e,_⟩ | ⟨h,e,_⟩ <;> rw[e]
 ·exact⟨fun _=>by grind,fun _=>by decide⟩
 ·exact⟨fun _=>by grind,fun _=>by decide⟩
 ·exact⟨fun h=>absurd h (by decide),fun h'=>by exfalso;grind⟩
theorem QD {a b p:Pt} (A:Alg) (hA:A=aA) (F:SF) (hF:F=aO) (H:SH) (hH:H=bD) (J:SJ) (hJ:J=kM) (h:H.all [a,b,p]=true) :
  A.ite (A.cmp .eql (H.turn a b p) 0) (A.cmp .leq (F.sign (H.dot p a b)) 0) false=J.on a b p:=by
 subst hA hF hH hJ
 have h:dX [a,b,p]=true:=h
 obtain⟨ha,hb,hp⟩:=fV h
 rw[Aq,if_pos (AL (fJ.2 hp) (fJ.2 ha) (fJ.2 hb)),kN h]
 show(if(cZ (bB a b p) 0 == 0)=true then decide (cZ (gY p a b) 0≤0) else false)=(decide (bB a b p=0)&&decide (gY p a b≤0))
 rw[Li]
 by_cases hc:bB a b p=0
 ·rw[hc,jF.2 rfl];simp
 ·rw[beq_eq_false_iff_ne.2 fun h=>hc (jF.1 h),decide_eq_false hc];rfl
def tL1 (A:Alg) (F:SF) (H:SH):List (Nat×bU):=(44,aC [.v, .v, .v] A (zO H)) :: (31,aC [.v, .v, .v] A (CT H)) :: (45,aC [.v] A (lQ F)) :: ([])
theorem Q5:COK Tryz.prog (aN (tL1 aA aO bD)):=aB Aa (aB yK (aB nI (bC)))
theorem H0:aJ Tryz.prog 30 (aC [.v, .v, .v] aA (Pq bD kM)):=by
 refine aH (un:=⟨false,some [3,4,5,6,7,8,9,10]⟩) tok Q5 aL (fn:=Tryz.f30) ?_
 intro w Wr args bs r hg ho hWr A L k hA hL hk
 obtain⟨F,hF⟩:=exE aO
 obtain⟨H,hH⟩:=exE bD
 obtain⟨J,hJ⟩:=exE kM
 try rw[← hF]
 try rw[← hH]
 try rw[← hJ]
 try rw[← hA]
 unfold Pq at hg
 split at hg <;> cases hg
 rename_i a b p
 have h0:=(aG ho).1
 clear ho
 rw[← hH] at h0
 have of:=QD A hA F hF H hH J hJ h0
 cbv
 refine hk _ _ (bE.pure rfl fun ρ=>?_)
 subst hJ
 exact yQ of
theorem QF {a b p:Pt} (A:Alg) (hA:A=aA) (H:SH) (hH:H=bD):A.ite (A.ite (A.not (H.all [a])) true (A.not (H.all [b]))) true (A.not (H.all [p]))=A.not (H.all [a,b,p]):=by
 subst hA hH
 show(if(if(!(dJ a&&true))=true then true else !(dJ b&&true))=true then true else !(dJ p&&true))= !(dJ a&&(dJ b&&(dJ p&&true)))
 cases dJ a <;> cases dJ b <;> cases dJ p <;> rfl
def tL2 (A:Alg) (H:SH) (J:SJ):List (Nat×bU):=(13,aC [.v] A (C1 H)) :: (30,aC [.v, .v, .v] A (Pq H J)) :: ([])
theorem Q6:COK Tryz.prog (aN (tL2 aA bD kM)):=aB z9 (aB H0 (bC))
theorem N6:aJ Tryz.prog 17 (aC [.v, .v, .v] aA (Mn aA bD kM)):=by
 refine aH (un:=⟨false,some [3,4,5,6,7,20]⟩) tok Q6 aL (fn:=Tryz.f17) ?_
 intro w Wr args bs r hg ho hWr A L k hA hL hk
 obtain⟨H,hH⟩:=exE bD
 obtain⟨J,hJ⟩:=exE kM
 try rw[← hH]
 try rw[← hJ]
 try rw[← hA]
 unfold Mn at hg
 split at hg <;> cases hg
 rename_i a b p
 have of:=Ob hA (o:=H.all [a,b,p]) (c:=J.on a b p)
 have ec:=QF (a:=a) (b:=b) (p:=p) A hA H hH
 cbv
 repeat' with_reducible first | (intro hb;cbv) | refine UM ?_ ?_
 ·rw[ec] at hb
  have e:=of.1 hb
  refine hk _ _ (bE.pure rfl fun ρ=>?_)
  subst hA hH hJ
  exact OZ e.1 e.2
 ·rw[ec] at hb
  exact(of.2 hb).2.symm
 ·rw[ec] at hb
  have e:=of.2 hb
  refine hk _ _ (bE.pure rfl fun ρ=>?_)
  subst hA hH hJ
  exact OW e.1 e.2
end Go.Eng
