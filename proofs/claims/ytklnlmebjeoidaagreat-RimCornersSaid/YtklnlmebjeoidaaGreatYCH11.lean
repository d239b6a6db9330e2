
import Derived.Test.YtklnlmebjeoidaaGreatYCH5
set_option linter.all false
set_option exponentiation.threshold 3000
set_option maxRecDepth 100000
set_option maxHeartbeats 2000000
namespace Go.Eng
open Go.Proofs
def ahY (A:Alg) (I:SP) (H:SH):List CV→List Blk→Option LW
 | [.s (.hs 0), .g [.P p]],[.vec false .pt l]=>some ⟨[A.cmp .lss (A.len l) 1000000,I.rise l], .c (.s (.int .i64 (I.find l p))),[],[]⟩
 | _,_=>none
structure FnF (A:Alg) (H:SH) (I:SP) (l:List Pt) (p:Pt):Prop where
 no:A.not (H.all [p])=true→ -1=I.find l p
 ok:A.not (H.all [p])=false→H.all [p]=true
 y:A.not (H.all [p])=false→I.there l p=true→I.pos l p=I.find l p
 n:A.not (H.all [p])=false→I.there l p=false→ -1=I.find l p
theorem ah1 (A:Alg) (hA:A=aA) (H:SH) (hH:H=bD) (I:SP) (hI:I=dL) (l:List Pt) (p:Pt):FnF A H I l p:=by
 subst hA hH hI
 have hn: ∀ b:Bool,aA.not b= !b:=fun b=>rfl
 have ea:bD.all [p]=dJ p:=by show(dJ p&&true)=_;rw[Bool.and_true]
 have ef:dL.find l p=if(dJ p&&i8 l p)=true then hO l p else -1:=rfl
 refine⟨fun h=>?_,fun h=>?_,fun h h2=>?_,fun h h2=>?_⟩
 ·rw[hn,ea,Bool.not_eq_true'] at h
  rw[ef,if_neg (by rw[h];simp)]
 ·rw[hn,Bool.not_eq_false'] at h;exact h
 ·rw[hn,ea,Bool.not_eq_false'] at h
  have h2:i8 l p=true:=h2
  rw[ef,if_pos (by rw[h,h2];rfl)];rfl
 ·rw[hn,ea,Bool.not_eq_false'] at h
  have h2:i8 l p=false:=h2
  rw[ef,if_neg (by rw[h2];simp)]
theorem ah2 {ρ ρ':Rho} {k:IntKind} {a c:Int} (h:a=c):(XV.c (.s (.int k a))).den ρ=(XV.c (.s (.int k c))).den ρ':=by subst h;rfl
theorem ah0 {ρ ρ':Rho} {k:IntKind} {a c:Int} (h:a=c):(XV.c (.s (.lit k a))).den ρ=(XV.c (.s (.int k c))).den ρ':=by subst h;rfl
theorem ahG:aJ Tryz.prog 22 (aR [.a (.s .pt), .a .v] aA (ahY aA dL bD)):=by
 refine aW (un:=⟨false,some [0,1,3,4,5,6,9,16]⟩) tok aeL aL (fn:=Tryz.f22) ?_
 intro w Wr args bs r hg ho hWr A L k hA hL hk
 obtain⟨H,hH⟩:=exE bD
 obtain⟨I,hI⟩:=exE dL
 try rw[← hH]
 try rw[← hI]
 try rw[← hA]
 unfold ahY at hg
 split at hg <;> cases hg
 rename_i p l
 have o1:=(aG ho).1
 have o2:=(aG (aG ho).2).1
 rw[← hA] at o1
 rw[← hI] at o2
 clear ho
 have f:=ah1 A hA H hH I hI l p
 cbv
 repeat' with_reducible first | (intro hb;cbv) | refine UM ?_ ?_
 ·have e:=f.no hb
  subst hI
  exact hk _ _ (bW.pure rfl rfl fun ρ=>ah0 e)
 ·exact o1
 ·exact o2
 ·exact f.ok hb
 ·have e:=f.y (by assumption) hb
  subst hI
  exact hk _ _ (bW.pure rfl rfl fun ρ=>ah2 e)
 ·have e:=f.n (by assumption) hb
  subst hI
  exact hk _ _ (bW.pure rfl rfl fun ρ=>ah0 e)
end Go.Eng
