
import Derived.Test.YtdbmppedhaipoaaGreatZCE5
import Derived.Test.YtdbmppedhaipoaaGreatZCVB
set_option linter.all false
set_option exponentiation.threshold 3000
set_option maxRecDepth 100000
set_option maxHeartbeats 2000000
namespace Go.Eng
open Go.Proofs
def npw (A:Alg) (s:Int):Bool:=A.ite (A.ite (A.ite (A.ite (A.ite (A.ite (A.cmp .neq s 1) (A.cmp .neq s 2) false) (A.cmp .neq s 4) false) (A.cmp .neq s 8) false) (A.cmp .neq s 16) false) (A.cmp .neq s 32) false) (A.cmp .neq s 64) false
def Zd (A:Alg) (x y s:Int):Bool:=A.ite (A.ite (A.ite (A.ite (A.ite (A.cmp .geq x 0) (A.cmp .geq y 0) false) (A.cmp .eql (A.bin .rem .i64 x s) 0) false) (A.cmp .eql (A.bin .rem .i64 y s) 0) false) (A.cmp .leq x (A.bin .sub .i64 64 s)) false) (A.cmp .leq y (A.bin .sub .i64 64 s)) false
structure QiF (A:Alg) (C:SC) (x y s:Int):Prop where
 c1:npw A s=true→false=C.is x y s
 nz:npw A s=false→A.cmp .neq s 0=true
 v:npw A s=false→Zd A x y s=C.is x y s
 im: ∀ b c,c=true→A.imp b c=true
theorem X9 (s:Int):npw aA s= !pw2 s:=by
 show(if(if(if(if(if(if(s != 1)=true then(s != 2) else false)=true then(s != 4) else false)=true then(s != 8) else false)=true then(s != 16) else false)=true then(s != 32) else false)=true then(s != 64) else false)=_
 unfold pw2
 by_cases h1:s=1 <;> by_cases h2:s=2 <;> by_cases h3:s=4 <;> by_cases h4:s=8 <;> by_cases h5:s=16 <;> by_cases h6:s=32 <;> by_cases h7:s=64 <;> simp[h1,h2,h3,h4,h5,h6,h7]
theorem ZD (A:Alg) (hA:A=aA) (C:SC) (hC:C=UT) (x y s:Int):QiF A C x y s:=by
 subst hA hC
 have hp:npw aA s=false→pw2 s=true:=fun h=>by rw[X9,Bool.not_eq_false'] at h;exact h
 refine⟨fun h=>?_,fun h=>?_,fun h=>?_,fun b c h=>by rw[h];cases b <;> rfl⟩
 ·rw[X9,Bool.not_eq_true'] at h
  show false=cIs x y s
  unfold cIs
  rw[h];rfl
 ·have:=Wo (hp h)
  show(s != 0)=true
  rw[bne_iff_ne];omega
 ·have hs:=hp h
  have hb:=Wo hs
  show Zd aA x y s=cIs x y s
  have e2:aA.bin .sub .i64 64 s=64 - s:=by show IntKind.i64.wrap _=_;rw[IntKind.wrap_i64];omega
  unfold Zd
  rw[e2]
  have it: ∀ u v:Bool,aA.ite u v false=(u&&v):=fun u v=>by cases u <;> rfl
  rw[it,it,it,it,it]
  show(((((decide (x ≥ 0)&&decide (y ≥ 0))&&(x.tmod s == 0))&&(y.tmod s == 0))&&decide (x≤64 - s))&&decide (y≤64 - s))=cIs x y s
  rw[Bool.eq_iff_iff]
  simp only[cIs,Bool.and_eq_true,decide_eq_true_eq,beq_iff_eq]
  constructor
  ·rintro⟨⟨⟨⟨⟨h1,h2⟩,h3⟩,h4⟩,h5⟩,h6⟩
   rw[Int.tmod_eq_emod_of_nonneg h1] at h3
   rw[Int.tmod_eq_emod_of_nonneg h2] at h4
   exact⟨⟨⟨⟨⟨⟨hs,h1⟩,h2⟩,h5⟩,h6⟩,h3⟩,h4⟩
  ·rintro⟨⟨⟨⟨⟨⟨_,h1⟩,h2⟩,h5⟩,h6⟩,h3⟩,h4⟩
   rw[Int.tmod_eq_emod_of_nonneg h1,Int.tmod_eq_emod_of_nonneg h2]
   exact⟨⟨⟨⟨⟨h1,h2⟩,h3⟩,h4⟩,h5⟩,h6⟩
theorem Vk:aJ Tryz.prog 15 (aC [.v] aA (Wq UT)):=by
 refine aH (un:=⟨false,some [0,1,2,3,31]⟩) tok nF aL (fn:=Tryz.f15) ?_
 intro w Wr args bs r hg ho hWr A L k hA hL hk
 obtain⟨C,hC⟩:=exE UT
 try rw[← hC]
 try rw[← hA]
 unfold Wq at hg
 split at hg <;> cases hg
 rename_i x y s
 have f:=ZD A hA C hC x y s
 cbv
 repeat' with_reducible first | (intro hb;cbv) | refine UM ?_ ?_
 ·refine hk _ _ (bE.pure rfl fun ρ=>BH ?_)
  rw[← hC]
  exact f.c1 hb
 ·exact f.im _ _ (f.nz (by assumption))
 ·exact f.im _ _ (f.nz (by assumption))
 ·refine hk _ _ (bE.pure rfl fun ρ=>yQ ?_)
  rw[← hC]
  exact f.v (by assumption)
def WY (A:Alg) (C:SC) (H:SH) (x y s:Int) (a b:Pt):Bool:=A.ite (A.ite (A.not (C.is x y s)) true (A.not (H.all [a]))) true (A.not (H.all [b]))
structure TcF (A:Alg) (C:SC) (H:SH) (J:SJ) (B:SB) (x y s:Int) (a b:Pt):Prop where
 c1:WY A C H x y s a b=true→false=B.tch x y s a b
 ci:WY A C H x y s a b=false→C.is x y s=true
 t0:WY A C H x y s a b=false→A.cmp .gtr (J.meet a b (B.c0 x y s) (B.c1 x y s)) 0=true→true=B.tch x y s a b
 t1:WY A C H x y s a b=false→A.cmp .gtr (J.meet a b (B.c1 x y s) (B.c2 x y s)) 0=true→true=B.tch x y s a b
 t2:WY A C H x y s a b=false→A.cmp .gtr (J.meet a b (B.c2 x y s) (B.c3 x y s)) 0=true→true=B.tch x y s a b
 t3:WY A C H x y s a b=false→A.cmp .gtr (J.meet a b (B.c3 x y s) (B.c0 x y s)) 0=true→true=B.tch x y s a b
 e:WY A C H x y s a b=false→A.cmp .gtr (J.meet a b (B.c0 x y s) (B.c1 x y s)) 0=false→A.cmp .gtr (J.meet a b (B.c1 x y s) (B.c2 x y s)) 0=false→A.cmp .gtr (J.meet a b (B.c2 x y s) (B.c3 x y s)) 0=false→A.cmp .gtr (J.meet a b (B.c3 x y s) (B.c0 x y s)) 0=false→B.in_ x y s a=B.tch x y s a b
theorem ZF (A:Alg) (hA:A=aA) (C:SC) (hC:C=UT) (H:SH) (hH:H=bD) (J:SJ) (hJ:J=kM) (B:SB) (hB:B=UP) (x y s:Int) (a b:Pt):TcF A C H J B x y s a b:=by
 subst hA hC hH hJ hB
 have it: ∀ u v:Bool,aA.ite u true v=(u||v):=fun u v=>by cases u <;> rfl
 have nt: ∀ u:Bool,aA.not u= !u:=fun u=>rfl
 have gt: ∀ n:Int,aA.cmp .gtr n 0=decide (n > 0):=fun n=>rfl
 have ha: ∀ p,bD.all [p]=dJ p:=fun p=>by show(dJ p&&true)=_;rw[Bool.and_true]
 have e:UP.tch x y s a b=(UT.is x y s&&((dJ a&&(dJ b&&true))&&((decide (kM.meet a b (UP.c0 x y s) (UP.c1 x y s) > 0)||(decide (kM.meet a b (UP.c1 x y s) (UP.c2 x y s) > 0)||(decide (kM.meet a b (UP.c2 x y s) (UP.c3 x y s) > 0)||decide (kM.meet a b (UP.c3 x y s) (UP.c0 x y s) > 0))))||UP.in_ x y s a))):=rfl
 have ec:WY aA UT bD x y s a b=((!UT.is x y s|| !dJ a)|| !dJ b):=by unfold WY;rw[it,it,nt,nt,nt,ha,ha]
 constructor <;> simp only[ec,gt,e] <;> generalize decide (kM.meet a b (UP.c0 x y s) (UP.c1 x y s) > 0)=g0 <;> generalize decide (kM.meet a b (UP.c1 x y s) (UP.c2 x y s) > 0)=g1 <;> generalize decide (kM.meet a b (UP.c2 x y s) (UP.c3 x y s) > 0)=g2 <;> generalize decide (kM.meet a b (UP.c3 x y s) (UP.c0 x y s) > 0)=g3 <;> generalize UP.in_ x y s a=i <;> generalize UT.is x y s=c <;> generalize dJ a=u <;> generalize dJ b=v <;> cases c <;> cases u <;> cases v <;> cases g0 <;> cases g1 <;> cases g2 <;> cases g3 <;> cases i <;> first | decide | simp
def YW (B:SB):List CV→List Blk→Option LR
 | [.g [.s (.int .i64 x), .s (.int .i64 y), .s (.int .i64 s)], .g [.P a], .g [.P b]],[]=>some ⟨[], .c (.s (.bool (B.tch x y s a b))),[]⟩
 | _,_=>none
def eD1 (A:Alg) (C:SC) (H:SH) (J:SJ) (B:SB):List (Nat×bU):=(15,aC [.v] A (Wq C)) :: (19,aC [.v] A (C1 H)) :: (32,aC [.v] A (VL C B)) :: (33,aC [.v, .v, .v, .v] A (JD H J)) :: (34,aC [.v, .v] A (YS C B)) :: ([])
theorem YP:COK Tryz.prog (aN (eD1 aA UT bD kM UP)):=aB Vk (aB z9 (aB Wm (aB Gp (aB Ys (bC)))))
theorem XO:aJ Tryz.prog 13 (aC [.v, .v, .v] aA (YW UP)):=by
 refine aH (un:=⟨true,some [0,1,2,3,4,5,6,7,8,9,23,27,45]⟩) tok YP aL (fn:=Tryz.f13) ?_
 intro w Wr args bs r hg ho hWr A L k hA hL hk
 obtain⟨B,hB⟩:=exE UP
 obtain⟨C,hC⟩:=exE UT
 obtain⟨H,hH⟩:=exE bD
 obtain⟨J,hJ⟩:=exE kM
 try rw[← hB]
 try rw[← hC]
 try rw[← hH]
 try rw[← hJ]
 try rw[← hA]
 unfold YW at hg
 split at hg <;> cases hg
 rename_i x y s a b
 have f:=ZF A hA C hC H hH J hJ B hB x y s a b
 cbv
 repeat' first | ((with_reducible intro hb);cbv) | with_reducible refine And.intro ?_ ?_
 ·refine hk _ _ (bE.pure rfl fun ρ=>BH ?_)
  rw[← hB]
  exact f.c1 hb
 ·exact f.ci (by assumption)
 ·refine hk _ _ (bE.pure rfl fun ρ=>BH ?_)
  rw[← hB]
  exact f.t0 (by assumption) (by assumption)
 ·refine hk _ _ (bE.pure rfl fun ρ=>BH ?_)
  rw[← hB]
  exact f.t1 (by assumption) (by assumption)
 ·refine hk _ _ (bE.pure rfl fun ρ=>BH ?_)
  rw[← hB]
  exact f.t2 (by assumption) (by assumption)
 ·refine hk _ _ (bE.pure rfl fun ρ=>BH ?_)
  rw[← hB]
  exact f.t3 (by assumption) (by assumption)
 ·exact f.ci (by assumption)
 ·refine hk _ _ (bE.pure rfl fun ρ=>yQ ?_)
  rw[← hB]
  exact f.e (by assumption) (by assumption) (by assumption) (by assumption) (by assumption)
end Go.Eng
