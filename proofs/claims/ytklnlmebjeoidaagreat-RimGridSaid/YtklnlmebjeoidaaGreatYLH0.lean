
import Derived.Test.YtklnlmebjeoidaaGreatYCH7
import Derived.Test.YtklnlmebjeoidaaGreatYCVB
import Derived.Test.YtklnlmebjeoidaaGreatYCTA
import Derived.Test.YtklnlmebjeoidaaGreatEngZA
set_option linter.all false
set_option exponentiation.threshold 3000
set_option maxRecDepth 100000
set_option maxHeartbeats 4000000
namespace Go.Eng
open Go.Proofs
def acI (I:SP):List CV→List Blk→Option LW
 | [.g [.P u, .P v, .P w]],[]=>some ⟨[], .c (.s (.bool (I.good u v w))),[],[]⟩
 | _,_=>none
structure GdF (A:Alg) (F:SF) (I:SP) (u v w:Pt):Prop where
 n0:A.not (F.safe u.X 12)=true→false=I.good u v w
 n1:A.not (F.safe u.Y 12)=true→false=I.good u v w
 n2:A.not (F.safe v.X 12)=true→false=I.good u v w
 n3:A.not (F.safe v.Y 12)=true→false=I.good u v w
 n4:A.not (F.safe w.X 12)=true→false=I.good u v w
 n5:A.not (F.safe w.Y 12)=true→false=I.good u v w
 y:A.not (F.safe u.X 12)=false→A.not (F.safe u.Y 12)=false→A.not (F.safe v.X 12)=false→A.not (F.safe v.Y 12)=false→A.not (F.safe w.X 12)=false→A.not (F.safe w.Y 12)=false→A.ite (A.ite (A.ite (A.cmp .lss (F.cmp u.X u.Y) 0) (A.cmp .leq (F.cmp v.X v.Y) 0) false) (A.cmp .leq (F.cmp w.X w.Y) 0) false) (A.ite (A.cmp .lss (F.cmp v.X v.Y) 0) true (A.cmp .lss (F.cmp w.X w.Y) 0)) false=I.good u v w
theorem agE (A:Alg) (hA:A=aA) (F:SF) (hF:F=aO) (I:SP) (hI:I=dL) (u v w:Pt):GdF A F I u v w:=by
 subst hA hF hI
 have ia: ∀ u v:Bool,aA.ite u v false=(u&&v):=fun u v=>by cases u <;> rfl
 have it: ∀ u v:Bool,aA.ite u true v=(u||v):=fun u v=>by cases u <;> rfl
 have hn: ∀ b:Bool,aA.not b= !b:=fun b=>rfl
 have e:dL.good u v w=acJ u v w:=rfl
 refine⟨fun h=>?_,fun h=>?_,fun h=>?_,fun h=>?_,fun h=>?_,fun h=>?_,fun h0 h1 h2 h3 h4 h5=>?_⟩
 all_goals rw[e];unfold acJ
 ·rw[hn,Bool.not_eq_true'] at h;rw[h];simp
 ·rw[hn,Bool.not_eq_true'] at h;rw[h];simp
 ·rw[hn,Bool.not_eq_true'] at h;rw[h];simp
 ·rw[hn,Bool.not_eq_true'] at h;rw[h];simp
 ·rw[hn,Bool.not_eq_true'] at h;rw[h];simp
 ·rw[hn,Bool.not_eq_true'] at h;rw[h];simp
 ·rw[hn,Bool.not_eq_false'] at h0 h1 h2 h3 h4 h5
  rw[h0,h1,h2,h3,h4,h5,ia,ia,ia,it]
  rfl
def uY0 (A:Alg) (F:SF):List (Nat×bU):=(23,aC [.v, .v] A (qN F)) :: (19,aC [.v, .v] A (A1 F)) :: ([])
theorem afY:COK Tryz.prog (aN (uY0 aA aO)):=aB Ab (aB Gs (bC))
theorem ac8:aJ Tryz.prog 8 (aR [.a .v] aA (acI dL)):=by
 refine aW (un:=⟨true,some [0,1,2,3,4,5,6,7,8,9,10,25,32]⟩) tok afY aL (fn:=Tryz.f8) ?_
 intro w Wr args bs r hg ho hWr A L k hA hL hk
 obtain⟨F,hF⟩:=exE aO
 obtain⟨I,hI⟩:=exE dL
 try rw[← hF]
 try rw[← hI]
 try rw[← hA]
 unfold acI at hg
 split at hg <;> cases hg
 rename_i u v w
 have f:=agE A hA F hF I hI u v w
 cbv
 repeat' first | ((with_reducible intro hb);cbv) | with_reducible refine And.intro ?_ ?_
 ·have e:=f.n0 hb
  subst hI
  exact hk _ _ (bW.pure rfl rfl fun ρ=>dT e)
 ·have e:=f.n1 hb
  subst hI
  exact hk _ _ (bW.pure rfl rfl fun ρ=>dT e)
 ·have e:=f.n2 hb
  subst hI
  exact hk _ _ (bW.pure rfl rfl fun ρ=>dT e)
 ·have e:=f.n3 hb
  subst hI
  exact hk _ _ (bW.pure rfl rfl fun ρ=>dT e)
 ·have e:=f.n4 hb
  subst hI
  exact hk _ _ (bW.pure rfl rfl fun ρ=>dT e)
 ·have e:=f.n5 hb
  subst hI
  exact hk _ _ (bW.pure rfl rfl fun ρ=>dT e)
 ·have e:=f.y (by assumption) (by assumption) (by assumption) (by assumption) (by assumption) (by assumption)
  subst hI
  exact hk _ _ (bW.pure rfl rfl fun ρ=>dB e)
def Zy:List CV→List Blk→Option LW
 | [],[]=>some ⟨[], .c (.s (.bool true)),[],[]⟩
 | _,_=>none
def uY1 (A:Alg) (H:SH) (I:SP):List (Nat×bU):=(16,aC [.v] A (qO A H)) :: (20,aC [.v, .v] A (FD A H)) :: (11,aR [.a .v, .a (.s .pt)] A (ae8 A I)) :: (14,aR [.a .v, .a .v, .a (.s .pt)] A (aeF A I)) :: ([])
theorem afZ:COK Tryz.prog (aN (uY1 aA bD dL)):=aB rC (aB HZ (aB adB (aB acK (bC))))
theorem ac1:aJ Tryz.prog 7 (aR [] aA (Zy)):=by
 refine aW (un:=⟨false,some [0,1,2,3,4,5]⟩) tok afZ aL (fn:=Tryz.f7) ?_
 intro w Wr args bs r hg ho hWr A L k hA hL hk
 obtain⟨H,hH⟩:=exE bD
 obtain⟨I,hI⟩:=exE dL
 try rw[← hH]
 try rw[← hI]
 try rw[← hA]
 unfold Zy at hg
 split at hg <;> cases hg
 cbv
 repeat' with_reducible first | (intro hb;cbv) | refine UM ?_ ?_
 all_goals first | ((try subst hA);(try subst hS);(try subst hR);(try subst hX);(try subst hC);(try subst hV);(try subst hT);(try subst hM);(try subst hF);(try subst hH);(try subst hK);(try subst hJ);(try subst hE);(try subst hD);(try subst hU);(try subst hW);(try subst hI);decide +kernel) | skip
 subst hA hH hI
 exact hk _ _ (bW.pure rfl rfl fun ρ=>dB (by decide +kernel))
end Go.Eng
