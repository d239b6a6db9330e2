
import Derived.Test.YtdbmppedhaipoaaGreatZCE3
set_option linter.all false
set_option exponentiation.threshold 3000
set_option maxRecDepth 100000
set_option maxHeartbeats 2000000
namespace Go.Eng
open Go.Proofs
def V6 (H:SH):List CV→List Blk→Option LR
 | [.g [.P a, .P b]],[]=>some ⟨[], .c (.s (.bool (H.all [a,b]))),[]⟩
 | _,_=>none
def eB1 (A:Alg) (H:SH):List (Nat×bU):=(82,aC [.v] A (C1 H)) :: ([])
theorem YK:COK Tryz.prog (aN (eB1 aA bD)):=aB DQ (bC)
theorem Yn:aJ Tryz.prog 53 (aC [.v] aA (V6 bD)):=by
 refine aH (un:=⟨false,some [1,2,6]⟩) tok YK aL (fn:=Tryz.f53) ?_
 intro w Wr args bs r hg ho hWr A L k hA hL hk
 obtain⟨H,hH⟩:=exE bD
 try rw[← hH]
 try rw[← hA]
 unfold V6 at hg
 split at hg <;> cases hg
 rename_i a b
 have e:A.ite (H.all [a]) (H.all [b]) false=H.all [a,b]:=by
  subst hA hH
  show(if(dJ a&&true)=true then(dJ b&&true) else false)=(dJ a&&(dJ b&&true))
  cases dJ a <;> cases dJ b <;> rfl
 cbv
 refine hk _ _ (bE.pure rfl fun ρ=>yQ ?_)
 rw[← hH]
 exact e
def Wu (B:SB):List CV→List Blk→Option LR
 | [.g [.P a, .P b], .g [.P p0, .P p1, .P p2, .P p3]],[]=>some ⟨[], .c (.s (.bool (B.aside a b p0 p1 p2 p3))),[]⟩
 | _,_=>none
inductive Tri (A:Alg) (t:Int):Nat→Prop
 | a:A.cmp .eql t 1=true→Tri A t 0
 | b:A.cmp .eql t 1=false→A.cmp .eql t (-1)=true→Tri A t 1
 | c:A.cmp .eql t 1=false→A.cmp .eql t (-1)=false→Tri A t 2
theorem Tri.of {t:Int} {k:Nat} (h:Tri aA t k):decide (t=1)=(k == 0)∧decide (t= -1)=(k == 1):=by
 have e: ∀ n:Int,aA.cmp .eql t n=decide (t=n):=fun n=>rfl
 cases h with
 | a h=>rw[e] at h;have:=of_decide_eq_true h;subst this;exact⟨rfl,rfl⟩
 | b h g=>rw[e] at h g;rw[h,g];exact⟨rfl,rfl⟩
 | c h g=>rw[e] at h g;rw[h,g];exact⟨rfl,rfl⟩
theorem WW {A:Alg} (hA:A=aA) {H:SH} (hH:H=bD) {a b p0 p1 p2 p3:Pt} {k0 k1 k2 k3:Nat} (h0:Tri A (H.turn a b p0) k0) (h1:Tri A (H.turn a b p1) k1) (h2:Tri A (H.turn a b p2) k2) (h3:Tri A (H.turn a b p3) k3) {v:Bool}
  (hv:v=((k0 == 0)&&((k1 == 0)&&((k2 == 0)&&(k3 == 0)))||((k0 == 1)&&((k1 == 1)&&((k2 == 1)&&(k3 == 1)))))):v=UP.aside a b p0 p1 p2 p3:=by
 subst hA hH
 rw[hv]
 show _=(VC 1 a b p0 p1 p2 p3||VC (-1) a b p0 p1 p2 p3)
 unfold VC
 rw[h0.of.1,h1.of.1,h2.of.1,h3.of.1,h0.of.2,h1.of.2,h2.of.2,h3.of.2]
def eB2 (A:Alg) (H:SH):List (Nat×bU):=(85,aC [.v, .v, .v] A (FI H)) :: ([])
theorem YL:COK Tryz.prog (aN (eB2 aA bD)):=aB z8 (bC)
theorem W6:aJ Tryz.prog 56 (aC [.v, .v] aA (Wu UP)):=by
 refine aH (un:=⟨true,some [2,3,4,5,6,8,9,11,12,13,24,25,29]⟩) tok YL aL (fn:=Tryz.f56) ?_
 intro w Wr args bs r hg ho hWr A L k hA hL hk
 obtain⟨B,hB⟩:=exE UP
 obtain⟨H,hH⟩:=exE bD
 try rw[← hB]
 try rw[← hH]
 try rw[← hA]
 unfold Wu at hg
 split at hg <;> cases hg
 rename_i a b p0 p1 p2 p3
 cbv
 repeat' first | ((with_reducible intro hb);cbv) | with_reducible refine And.intro ?_ ?_
 all_goals exact hk _ _ (bE.pure rfl fun ρ=>BH (WW hA hH (by first | exact Tri.a (by assumption) | exact Tri.b (by assumption) (by assumption) | exact Tri.c (by assumption) (by assumption)) (by first | exact Tri.a (by assumption) | exact Tri.b (by assumption) (by assumption) | exact Tri.c (by assumption) (by assumption)) (by first | exact Tri.a (by assumption) | exact Tri.b (by assumption) (by assumption) | exact Tri.c (by assumption) (by assumption)) (by first | exact Tri.a (by assumption) | exact Tri.b (by assumption) (by assumption) | exact Tri.c (by assumption) (by assumption)) (by rfl)))
end Go.Eng
