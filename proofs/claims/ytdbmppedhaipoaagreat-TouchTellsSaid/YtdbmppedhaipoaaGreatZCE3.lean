
import Derived.Test.YtdbmppedhaipoaaGreatZCE1
import Derived.Test.YtdbmppedhaipoaaGreatZCRB
import Derived.Test.YtdbmppedhaipoaaGreatZCU1
import Derived.Test.YtdbmppedhaipoaaGreatZCTA
import Derived.Test.YtdbmppedhaipoaaGreatSpecB
import Derived.Test.YtdbmppedhaipoaaGreatSpecFA
import Derived.Test.YtdbmppedhaipoaaGreatEngZA
set_option linter.all false
set_option exponentiation.threshold 3000
set_option maxRecDepth 100000
set_option maxHeartbeats 2000000
namespace Go.Eng
open Go.Proofs
theorem XA {x y s:Int} (h:cIs x y s=true):1≤s∧s≤64∧0≤x∧0≤y∧x≤64 - s∧y≤64 - s:=by
 simp only[cIs,Bool.and_eq_true,decide_eq_true_eq] at h
 obtain⟨⟨⟨⟨⟨⟨h1,h2⟩,h3⟩,h4⟩,h5⟩,_⟩,_⟩:=h
 have:=Wo h1
 exact⟨this.1,this.2,h2,h3,h4,h5⟩
structure CeF (A:Alg) (H:SH) (B:SB) (x y s:Int):Prop where
 x0:A.cmp .leq (-9223372036854775808) x=true
 x1:A.cmp .lss x 9223372036854775808=true
 y0:A.cmp .leq (-9223372036854775808) y=true
 y1:A.cmp .lss y 9223372036854775808=true
 u0:A.cmp .leq (-9223372036854775808) (A.bin .add .i64 x s)=true
 u1:A.cmp .lss (A.bin .add .i64 x s) 9223372036854775808=true
 v0:A.cmp .leq (-9223372036854775808) (A.bin .add .i64 y s)=true
 v1:A.cmp .lss (A.bin .add .i64 y s) 9223372036854775808=true
 c0:H.at_ x y=B.c0 x y s
 c1:H.at_ (A.bin .add .i64 x s) y=B.c1 x y s
 c2:H.at_ (A.bin .add .i64 x s) (A.bin .add .i64 y s)=B.c2 x y s
 c3:H.at_ x (A.bin .add .i64 y s)=B.c3 x y s
theorem Zm (A:Alg) (hA:A=aA) (H:SH) (hH:H=bD) (B:SB) (hB:B=UP) (C:SC) (hC:C=UT) {x y s:Int} (h:C.is x y s=true):CeF A H B x y s:=by
 subst hA hH hB hC
 obtain⟨h1,h2,h3,h4,h5,h6⟩:=XA h
 have e1:aA.bin .add .i64 x s=x+s:=by show IntKind.i64.wrap _=_;rw[IntKind.wrap_i64];omega
 have e2:aA.bin .add .i64 y s=y+s:=by show IntKind.i64.wrap _=_;rw[IntKind.wrap_i64];omega
 exact⟨bJ _ rfl _ _ (by omega),bH _ rfl _ _ (by omega),bJ _ rfl _ _ (by omega),bH _ rfl _ _ (by omega),bJ _ rfl _ _ (by rw[e1];omega),bH _ rfl _ _ (by rw[e1];omega),bJ _ rfl _ _ (by rw[e2];omega),bH _ rfl _ _ (by rw[e2];omega),rfl,rfl,rfl,rfl⟩
def VL (C:SC) (B:SB):List CV→List Blk→Option LR
 | [.g [.s (.int .i64 x), .s (.int .i64 y), .s (.int .i64 s)]],[]=>some ⟨[C.is x y s], .c (.g [.P (B.c0 x y s), .P (B.c1 x y s), .P (B.c2 x y s), .P (B.c3 x y s)]),[]⟩
 | _,_=>none
theorem d4 {ρ:Rho} {f:Nat→Nat} {a b c d a' b' c' d':Pt} (h1:a=a') (h2:b=b') (h3:c=c') (h4:d=d'):(XV.c (.g [.P a, .P b, .P c, .P d])).den ρ=((XV.c (.g [.P a', .P b', .P c', .P d'])).ren f).den ρ:=by subst h1 h2 h3 h4;rfl
def eA1 (A:Alg) (H:SH):List (Nat×bU):=(80,aC [.v] A (Wv A)) :: (83,aC [.v, .v] A (FD A H)) :: (21,aC [.v, .v] A (FD A H)) :: ([])
theorem XZ:COK Tryz.prog (aN (eA1 aA bD)):=aB W7 (aB DF (aB HZ (bC)))
theorem XM:aJ Tryz.prog 54 (aC [.v] aA (VL UT UP)):=by
 refine aH (un:=⟨false,some [1,2,3,13,21,29,37]⟩) tok XZ aL (fn:=Tryz.f54) ?_
 intro w Wr args bs r hg ho hWr A L k hA hL hk
 obtain⟨B,hB⟩:=exE UP
 obtain⟨C,hC⟩:=exE UT
 obtain⟨H,hH⟩:=exE bD
 try rw[← hB]
 try rw[← hC]
 try rw[← hH]
 try rw[← hA]
 unfold VL at hg
 split at hg <;> cases hg
 rename_i x y s
 have hc:C.is x y s=true:=by rw[hC];exact(aG ho).1
 have f:=Zm A hA H hH B hB C hC hc
 clear ho
 cbv
 repeat' with_reducible first | (intro hb;cbv) | refine UM ?_ ?_
 all_goals first | exact f.x0 | exact f.x1 | exact f.y0 | exact f.y1 | exact f.u0 | exact f.u1 | exact f.v0 | exact f.v1 | skip
 exact hk _ _ (bE.pure rfl fun ρ=>by subst hB;exact d4 f.c0 f.c1 f.c2 f.c3)
theorem Wm:aJ Tryz.prog 32 (aC [.v] aA (VL UT UP)):=by
 refine aH (un:=⟨false,some [1,2,7,15,26,34]⟩) tok XZ aL (fn:=Tryz.f32) ?_
 intro w Wr args bs r hg ho hWr A L k hA hL hk
 obtain⟨B,hB⟩:=exE UP
 obtain⟨C,hC⟩:=exE UT
 obtain⟨H,hH⟩:=exE bD
 try rw[← hB]
 try rw[← hC]
 try rw[← hH]
 try rw[← hA]
 unfold VL at hg
 split at hg <;> cases hg
 rename_i x y s
 have hc:C.is x y s=true:=by rw[hC];exact(aG ho).1
 have f:=Zm A hA H hH B hB C hC hc
 clear ho
 cbv
 repeat' with_reducible first | (intro hb;cbv) | refine UM ?_ ?_
 all_goals first | exact f.x0 | exact f.x1 | exact f.y0 | exact f.y1 | exact f.u0 | exact f.u1 | exact f.v0 | exact f.v1 | skip
 exact hk _ _ (bE.pure rfl fun ρ=>by subst hB;exact d4 f.c0 f.c1 f.c2 f.c3)
def Wj (B:SB):List CV→List Blk→Option LR
 | [.g [.R a], .g [.R b], .g [.R lo], .g [.R hi]],[]=>some ⟨[], .c (.s (.bool (B.apart a b lo hi))),[]⟩
 | _,_=>none
def eA2 (A:Alg) (F:SF):List (Nat×bU):=(84,aC [.v, .v] A (A1 F)) :: ([])
theorem YJ:COK Tryz.prog (aN (eA2 aA aO)):=aB Kl (bC)
theorem W5:aJ Tryz.prog 55 (aC [.v, .v, .v, .v] aA (Wj UP)):=by
 refine aH (un:=⟨false,some [4,5,6,7,8,9,10,11,12,13,19,30,31,37]⟩) tok YJ aL (fn:=Tryz.f55) ?_
 intro w Wr args bs r hg ho hWr A L k hA hL hk
 obtain⟨B,hB⟩:=exE UP
 obtain⟨F,hF⟩:=exE aO
 try rw[← hB]
 try rw[← hF]
 try rw[← hA]
 unfold Wj at hg
 split at hg <;> cases hg
 rename_i a b lo hi
 have e: ∀ x y:Bool,A.ite x y false=(x&&y):=fun x y=>by subst hA;cases x <;> rfl
 have ad:B.apart a b lo hi=(A.ite (A.ite (A.cmp .lss (F.cmp a lo) 0) (A.cmp .lss (F.cmp b lo) 0) false) true (A.ite (A.cmp .gtr (F.cmp a hi) 0) (A.cmp .gtr (F.cmp b hi) 0) false)):=by
  subst hB hF hA
  show Vv a b lo hi=(if(if decide (aO.cmp a lo < 0)=true then decide (aO.cmp b lo < 0) else false)=true then true else if decide (aO.cmp a hi > 0)=true then decide (aO.cmp b hi > 0) else false)
  unfold Vv
  cases decide (aO.cmp a lo < 0) <;> cases decide (aO.cmp b lo < 0) <;> cases decide (aO.cmp a hi > 0) <;> cases decide (aO.cmp b hi > 0) <;> rfl
 have t1: ∀ b,A.ite true true b=true:=fun b=>by subst hA;rfl
 have t2: ∀ b,A.ite false true b=b:=fun b=>by subst hA;rfl
 cbv
 repeat' with_reducible first | (intro hb;cbv) | refine UM ?_ ?_
 ·refine hk _ _ (bE.pure rfl fun ρ=>BH ?_)
  rw[← hB]
  exact(ad.trans ((congrArg (fun z=>A.ite z true (A.ite (A.cmp .gtr (F.cmp a hi) 0) (A.cmp .gtr (F.cmp b hi) 0) false)) hb).trans (t1 _))).symm
 ·refine hk _ _ (bE.pure rfl fun ρ=>yQ ?_)
  rw[← hB]
  exact(ad.trans ((congrArg (fun z=>A.ite z true (A.ite (A.cmp .gtr (F.cmp a hi) 0) (A.cmp .gtr (F.cmp b hi) 0) false)) hb).trans (t2 _))).symm
def eA3 (A:Alg) (C:SC) (B:SB):List (Nat×bU):=(54,aC [.v] A (VL C B)) :: (32,aC [.v] A (VL C B)) :: (55,aC [.v, .v, .v, .v] A (Wj B)) :: ([])
end Go.Eng
