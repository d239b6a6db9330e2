
import Derived.Test.YtdbmppedhaipoaaGreatZCE1
import Derived.Test.YtdbmppedhaipoaaGreatZCRB
import Derived.Test.YtdbmppedhaipoaaGreatZCU1
import Derived.Test.YtdbmppedhaipoaaGreatZCTA
import Derived.Test.YtdbmppedhaipoaaGreatSpecBA
import Derived.Test.YtdbmppedhaipoaaGreatSpecFA
import Derived.Test.YtdbmppedhaipoaaGreatEngZA
import Derived.Test.YtdbmppedhaipoaaGreatZCVB
import Derived.Test.YtdbmppedhaipoaaGreatZCDB
set_option linter.all false
set_option exponentiation.threshold 3000
set_option maxRecDepth 100000
set_option maxHeartbeats 2000000
namespace Go.Eng
open Go.Proofs
theorem XA {x y s:Int} (h:cIs x y s=true):1≤s∧s≤64∧0≤x∧0≤y∧x≤64 - s∧y≤64 - s:=by
 simp only[cIs,Bool.and_eq_true,decide_eq_true_eq] at h
 obtain⟨⟨⟨⟨⟨⟨h1,h2⟩,h3⟩,h4⟩,h5⟩,_⟩,_⟩:=h
 have:=Wo h1
 exact⟨this.1,this.2,h2,h3,h4,h5⟩
structure CeF (A:Alg) (H:SH) (B:SB) (x y s:Int):Prop where
 x0:A.cmp .leq (-9223372036854775808) x=true
 x1:A.cmp .lss x 9223372036854775808=true
 y0:A.cmp .leq (-9223372036854775808) y=true
 y1:A.cmp .lss y 9223372036854775808=true
 u0:A.cmp .leq (-9223372036854775808) (A.bin .add .i64 x s)=true
 u1:A.cmp .lss (A.bin .add .i64 x s) 9223372036854775808=true
 v0:A.cmp .leq (-9223372036854775808) (A.bin .add .i64 y s)=true
 v1:A.cmp .lss (A.bin .add .i64 y s) 9223372036854775808=true
 c0:H.at_ x y=B.c0 x y s
 c1:H.at_ (A.bin .add .i64 x s) y=B.c1 x y s
 c2:H.at_ (A.bin .add .i64 x s) (A.bin .add .i64 y s)=B.c2 x y s
 c3:H.at_ x (A.bin .add .i64 y s)=B.c3 x y s
theorem Zm (A:Alg) (hA:A=aA) (H:SH) (hH:H=bD) (B:SB) (hB:B=UP) (C:SC) (hC:C=UT) {x y s:Int} (h:C.is x y s=true):CeF A H B x y s:=by
 subst hA hH hB hC
 obtain⟨h1,h2,h3,h4,h5,h6⟩:=XA h
 have e1:aA.bin .add .i64 x s=x+s:=by show IntKind.i64.wrap _=_;rw[IntKind.wrap_i64];omega
 have e2:aA.bin .add .i64 y s=y+s:=by show IntKind.i64.wrap _=_;rw[IntKind.wrap_i64];omega
 exact⟨bJ _ rfl _ _ (by omega),bH _ rfl _ _ (by omega),bJ _ rfl _ _ (by omega),bH _ rfl _ _ (by omega),bJ _ rfl _ _ (by rw[e1];omega),bH _ rfl _ _ (by rw[e1];omega),bJ _ rfl _ _ (by rw[e2];omega),bH _ rfl _ _ (by rw[e2];omega),rfl,rfl,rfl,rfl⟩
def VL (C:SC) (B:SB):List CV→List Blk→Option LR
 | [.g [.s (.int .i64 x), .s (.int .i64 y), .s (.int .i64 s)]],[]=>some ⟨[C.is x y s], .c (.g [.P (B.c0 x y s), .P (B.c1 x y s), .P (B.c2 x y s), .P (B.c3 x y s)]),[]⟩
 | _,_=>none
theorem d4 {ρ:Rho} {f:Nat→Nat} {a b c d a' b' c' d':Pt} (h1:a=a') (h2:b=b') (h3:c=c') (h4:d=d'):(XV.c (.g [.P a, .P b, .P c, .P d])).den ρ=((XV.c (.g [.P a', .P b', .P c', .P d'])).ren f).den ρ:=by subst h1 h2 h3 h4;rfl
def eA1 (A:Alg) (H:SH):List (Nat×bU):=(80,aC [.v] A (Wv A)) :: (83,aC [.v, .v] A (FD A H)) :: (21,aC [.v, .v] A (FD A H)) :: ([])
theorem XZ:COK Tryz.prog (aN (eA1 aA bD)):=aB W7 (aB DF (aB HZ (bC)))
theorem XM:aJ Tryz.prog 54 (aC [.v] aA (VL UT UP)):=by
 refine aH (un:=⟨false,some [1,2,3,13,21,29,37]⟩) tok XZ aL (fn:=Tryz.f54) ?_
 intro w Wr args bs r hg ho hWr A L k hA hL hk
 obtain⟨B,hB⟩:=exE UP
 obtain⟨C,hC⟩:=exE UT
 obtain⟨H,hH⟩:=exE bD
 try rw[← hB]
 try rw[← hC]
 try rw[← hH]
 try rw[← hA]
 unfold VL at hg
 split at hg <;> cases hg
 rename_i x y s
 have hc:C.is x y s=true:=by rw[hC];exact(aG ho).1
 have f:=Zm A hA H hH B hB C hC hc
 clear ho
 cbv
 repeat' with_reducible first | (intro hb;cbv) | refine UM ?_ ?_
 all_goals first | exact f.x0 | exact f.x1 | exact f.y0 | exact f.y1 | exact f.u0 | exact f.u1 | exact f.v0 | exact f.v1 | skip
 exact hk _ _ (bE.pure rfl fun ρ=>by subst hB;exact d4 f.c0 f.c1 f.c2 f.c3)
def Wj (B:SB):List CV→List Blk→Option LR
 | [.g [.R a], .g [.R b], .g [.R lo], .g [.R hi]],[]=>some ⟨[], .c (.s (.bool (B.apart a b lo hi))),[]⟩
 | _,_=>none
def eA2 (A:Alg) (F:SF):List (Nat×bU):=(84,aC [.v, .v] A (A1 F)) :: ([])
theorem YJ:COK Tryz.prog (aN (eA2 aA aO)):=aB Kl (bC)
theorem W5:aJ Tryz.prog 55 (aC [.v, .v, .v, .v] aA (Wj UP)):=by
 refine aH (un:=⟨false,some [4,5,6,7,8,9,10,11,12,13,19,30,31,37]⟩) tok YJ aL (fn:=Tryz.f55) ?_
 intro w Wr args bs r hg ho hWr A L k hA hL hk
 obtain⟨B,hB⟩:=exE UP
 obtain⟨F,hF⟩:=exE aO
 try rw[← hB]
 try rw[← hF]
 try rw[← hA]
 unfold Wj at hg
 split at hg <;> cases hg
 rename_i a b lo hi
 have e: ∀ x y:Bool,A.ite x y false=(x&&y):=fun x y=>by subst hA;cases x <;> rfl
 have ad:B.apart a b lo hi=(A.ite (A.ite (A.cmp .lss (F.cmp a lo) 0) (A.cmp .lss (F.cmp b lo) 0) false) true (A.ite (A.cmp .gtr (F.cmp a hi) 0) (A.cmp .gtr (F.cmp b hi) 0) false)):=by
  subst hB hF hA
  show Vv a b lo hi=(if(if decide (aO.cmp a lo < 0)=true then decide (aO.cmp b lo < 0) else false)=true then true else if decide (aO.cmp a hi > 0)=true then decide (aO.cmp b hi > 0) else false)
  unfold Vv
  cases decide (aO.cmp a lo < 0) <;> cases decide (aO.cmp b lo < 0) <;> cases decide (aO.cmp a hi > 0) <;> cases decide (aO.cmp b hi > 0) <;> rfl
 have t1: ∀ b,A.ite true true b=true:=fun b=>by subst hA;rfl
 have t2: ∀ b,A.ite false true b=b:=fun b=>by subst hA;rfl
 cbv
 repeat' with_reducible first | (intro hb;cbv) | refine UM ?_ ?_
 ·refine hk _ _ (bE.pure rfl fun ρ=>BH ?_)
  rw[← hB]
  exact(ad.trans ((congrArg (fun z=>A.ite z true (A.ite (A.cmp .gtr (F.cmp a hi) 0) (A.cmp .gtr (F.cmp b hi) 0) false)) hb).trans (t1 _))).symm
 ·refine hk _ _ (bE.pure rfl fun ρ=>yQ ?_)
  rw[← hB]
  exact(ad.trans ((congrArg (fun z=>A.ite z true (A.ite (A.cmp .gtr (F.cmp a hi) 0) (A.cmp .gtr (F.cmp b hi) 0) false)) hb).trans (t2 _))).symm
def eA3 (A:Alg) (C:SC) (B:SB):List (Nat×bU):=(54,aC [.v] A (VL C B)) :: (32,aC [.v] A (VL C B)) :: (55,aC [.v, .v, .v, .v] A (Wj B)) :: ([])
def V6 (H:SH):List CV→List Blk→Option LR
 | [.g [.P a, .P b]],[]=>some ⟨[], .c (.s (.bool (H.all [a,b]))),[]⟩
 | _,_=>none
def eB1 (A:Alg) (H:SH):List (Nat×bU):=(82,aC [.v] A (C1 H)) :: ([])
theorem YK:COK Tryz.prog (aN (eB1 aA bD)):=aB DQ (bC)
theorem Yn:aJ Tryz.prog 53 (aC [.v] aA (V6 bD)):=by
 refine aH (un:=⟨false,some [1,2,6]⟩) tok YK aL (fn:=Tryz.f53) ?_
 intro w Wr args bs r hg ho hWr A L k hA hL hk
 obtain⟨H,hH⟩:=exE bD
 try rw[← hH]
 try rw[← hA]
 unfold V6 at hg
 split at hg <;> cases hg
 rename_i a b
 have e:A.ite (H.all [a]) (H.all [b]) false=H.all [a,b]:=by
  subst hA hH
  show(if(dJ a&&true)=true then(dJ b&&true) else false)=(dJ a&&(dJ b&&true))
  cases dJ a <;> cases dJ b <;> rfl
 cbv
 refine hk _ _ (bE.pure rfl fun ρ=>yQ ?_)
 rw[← hH]
 exact e
def Wu (B:SB):List CV→List Blk→Option LR
 | [.g [.P a, .P b], .g [.P p0, .P p1, .P p2, .P p3]],[]=>some ⟨[], .c (.s (.bool (B.aside a b p0 p1 p2 p3))),[]⟩
 | _,_=>none
inductive Tri (A:Alg) (t:Int):Nat→Prop
 | a:A.cmp .eql t 1=true→Tri A t 0
 | b:A.cmp .eql t 1=false→A.cmp .eql t (-1)=true→Tri A t 1
 | c:A.cmp .eql t 1=false→A.cmp .eql t (-1)=false→Tri A t 2
theorem Tri.of {t:Int} {k:Nat} (h:Tri aA t k):decide (t=1)=(k == 0)∧decide (t= -1)=(k == 1):=by
 have e: ∀ n:Int,aA.cmp .eql t n=decide (t=n):=fun n=>rfl
 cases h with
 | a h=>rw[e] at h;have:=of_decide_eq_true h;subst this;exact⟨rfl,rfl⟩
 | b h g=>rw[e] at h g;rw[h,g];exact⟨rfl,rfl⟩
 | c h g=>rw[e] at h g;rw[h,g];exact⟨rfl,rfl⟩
theorem WW {A:Alg} (hA:A=aA) {H:SH} (hH:H=bD) {a b p0 p1 p2 p3:Pt} {k0 k1 k2 k3:Nat} (h0:Tri A (H.turn a b p0) k0) (h1:Tri A (H.turn a b p1) k1) (h2:Tri A (H.turn a b p2) k2) (h3:Tri A (H.turn a b p3) k3) {v:Bool}
  (hv:v=((k0 == 0)&&((k1 == 0)&&((k2 == 0)&&(k3 == 0)))||((k0 == 1)&&((k1 == 1)&&((k2 == 1)&&(k3 == 1)))))):v=UP.aside a b p0 p1 p2 p3:=by
 subst hA hH
 rw[hv]
 show _=(VC 1 a b p0 p1 p2 p3||VC (-1) a b p0 p1 p2 p3)
 unfold VC
 rw[h0.of.1,h1.of.1,h2.of.1,h3.of.1,h0.of.2,h1.of.2,h2.of.2,h3.of.2]
def eB2 (A:Alg) (H:SH):List (Nat×bU):=(85,aC [.v, .v, .v] A (FI H)) :: ([])
theorem YL:COK Tryz.prog (aN (eB2 aA bD)):=aB z8 (bC)
theorem W6:aJ Tryz.prog 56 (aC [.v, .v] aA (Wu UP)):=by
 refine aH (un:=⟨true,some [2,3,4,5,6,8,9,11,12,13,24,25,29]⟩) tok YL aL (fn:=Tryz.f56) ?_
 intro w Wr args bs r hg ho hWr A L k hA hL hk
 obtain⟨B,hB⟩:=exE UP
 obtain⟨H,hH⟩:=exE bD
 try rw[← hB]
 try rw[← hH]
 try rw[← hA]
 unfold Wu at hg
 split at hg <;> cases hg
 rename_i a b p0 p1 p2 p3
 cbv
 repeat' first | ((with_reducible intro hb);cbv) | with_reducible refine And.intro ?_ ?_
 all_goals exact hk _ _ (bE.pure rfl fun ρ=>BH (WW hA hH (by first | exact Tri.a (by assumption) | exact Tri.b (by assumption) (by assumption) | exact Tri.c (by assumption) (by assumption)) (by first | exact Tri.a (by assumption) | exact Tri.b (by assumption) (by assumption) | exact Tri.c (by assumption) (by assumption)) (by first | exact Tri.a (by assumption) | exact Tri.b (by assumption) (by assumption) | exact Tri.c (by assumption) (by assumption)) (by first | exact Tri.a (by assumption) | exact Tri.b (by assumption) (by assumption) | exact Tri.c (by assumption) (by assumption)) (by rfl)))
structure TmF (A:Alg) (C:SC) (H:SH) (B:SB) (x y s:Int) (a b:Pt):Prop where
 c1:A.ite (A.not (C.is x y s)) true (A.not (H.all [a,b]))=true→false=B.seg x y s a b
 ci:A.ite (A.not (C.is x y s)) true (A.not (H.all [a,b]))=false→C.is x y s=true
 c2:A.ite (A.not (C.is x y s)) true (A.not (H.all [a,b]))=false→A.ite (B.apart a.X b.X (B.c0 x y s).X (B.c2 x y s).X) true (B.apart a.Y b.Y (B.c0 x y s).Y (B.c2 x y s).Y)=true→false=B.seg x y s a b
 c3:A.ite (A.not (C.is x y s)) true (A.not (H.all [a,b]))=false→A.ite (B.apart a.X b.X (B.c0 x y s).X (B.c2 x y s).X) true (B.apart a.Y b.Y (B.c0 x y s).Y (B.c2 x y s).Y)=false→A.not (B.aside a b (B.c0 x y s) (B.c1 x y s) (B.c2 x y s) (B.c3 x y s))=B.seg x y s a b
theorem ZG (A:Alg) (hA:A=aA) (C:SC) (hC:C=UT) (H:SH) (hH:H=bD) (B:SB) (hB:B=UP) (x y s:Int) (a b:Pt):TmF A C H B x y s a b:=by
 subst hA hC hH hB
 have it: ∀ u v:Bool,aA.ite u true v=(u||v):=fun u v=>by cases u <;> rfl
 have nt: ∀ u:Bool,aA.not u= !u:=fun u=>rfl
 have e:UP.seg x y s a b=(UT.is x y s&&(bD.all [a,b]&&(!(UP.apart a.X b.X (UP.c0 x y s).X (UP.c2 x y s).X||UP.apart a.Y b.Y (UP.c0 x y s).Y (UP.c2 x y s).Y)&& !UP.aside a b (UP.c0 x y s) (UP.c1 x y s) (UP.c2 x y s) (UP.c3 x y s)))):=rfl
 constructor <;> simp only[it,nt,e]
 all_goals
  cases UT.is x y s <;> cases bD.all [a,b] <;> cases UP.apart a.X b.X (UP.c0 x y s).X (UP.c2 x y s).X <;> cases UP.apart a.Y b.Y (UP.c0 x y s).Y (UP.c2 x y s).Y <;> cases UP.aside a b (UP.c0 x y s) (UP.c1 x y s) (UP.c2 x y s) (UP.c3 x y s) <;> decide
def Ww (B:SB):List CV→List Blk→Option LR
 | [.g [.P a, .P b], .g [.s (.int .i64 x), .s (.int .i64 y), .s (.int .i64 s)]],[]=>some ⟨[], .c (.s (.bool (B.seg x y s a b))),[]⟩
 | _,_=>none
def eC1 (A:Alg) (C:SC) (H:SH) (B:SB):List (Nat×bU):=(50,aC [.v] A (Wq C)) :: (53,aC [.v] A (V6 H)) :: (54,aC [.v] A (VL C B)) :: (55,aC [.v, .v, .v, .v] A (Wj B)) :: (56,aC [.v, .v] A (Wu B)) :: ([])
theorem YM:COK Tryz.prog (aN (eC1 aA UT bD UP)):=aB Yo (aB Yn (aB XM (aB W5 (aB W6 (bC)))))
theorem WH:aJ Tryz.prog 31 (aC [.v, .v] aA (Ww UP)):=by
 refine aH (un:=⟨false,some [0,1,2,3,4,5,14,48]⟩) tok YM aL (fn:=Tryz.f31) ?_
 intro w Wr args bs r hg ho hWr A L k hA hL hk
 obtain⟨B,hB⟩:=exE UP
 obtain⟨C,hC⟩:=exE UT
 obtain⟨H,hH⟩:=exE bD
 try rw[← hB]
 try rw[← hC]
 try rw[← hH]
 try rw[← hA]
 unfold Ww at hg
 split at hg <;> cases hg
 rename_i a b x y s
 have f:=ZG A hA C hC H hH B hB x y s a b
 cbv
 repeat' with_reducible first | (intro hb;cbv) | refine UM ?_ ?_
 ·refine hk _ _ (bE.pure rfl fun ρ=>BH ?_)
  rw[← hB]
  exact f.c1 hb
 intro hb
 have ci:=f.ci hb
 have f2:=f.c2 hb
 have f3:=f.c3 hb
 clear f hb
 with_reducible refine U7 ?_
 show run _ _ (Code.seq _ _) _ _
 with_reducible refine fA fun kk hn hx=>?_
 cbv
 repeat' with_reducible first | (intro hb;cbv) | refine UM ?_ ?_
 all_goals first | (with_reducible refine hn _ ?_;clear hn hx kk) | exact ci | skip
 cbv
 repeat' with_reducible first | (intro hb;cbv) | refine UM ?_ ?_
 ·refine hk _ _ (bE.pure rfl fun ρ=>BH ?_)
  rw[← hB]
  exact f2 hb
 ·refine hk _ _ (bE.pure rfl fun ρ=>yQ ?_)
  rw[← hB]
  exact f3 hb
def VW (B:SB):List CV→List Blk→Option LR
 | [.g [.s (.int .i64 x), .s (.int .i64 y), .s (.int .i64 s)], .g [.P a], .g [.P b]],[]=>some ⟨[], .c (.s (.bool (B.seg x y s a b))),[]⟩
 | _,_=>none
def eC2 (A:Alg) (B:SB):List (Nat×bU):=(31,aC [.v, .v] A (Ww B)) :: ([])
theorem YN:COK Tryz.prog (aN (eC2 aA UP)):=aB WH (bC)
theorem Vt:aJ Tryz.prog 12 (aC [.v, .v, .v] aA (VW UP)):=by
 refine aH (un:=⟨false,some [0,1,2,3,4,5,6]⟩) tok YN aL (fn:=Tryz.f12) ?_
 intro w Wr args bs r hg ho hWr A L k hA hL hk
 obtain⟨B,hB⟩:=exE UP
 try rw[← hB]
 try rw[← hA]
 unfold VW at hg
 split at hg <;> cases hg
 cbv
 exact hk _ _ (bE.pure rfl fun ρ=>by subst hB;rfl)
def npw (A:Alg) (s:Int):Bool:=A.ite (A.ite (A.ite (A.ite (A.ite (A.ite (A.cmp .neq s 1) (A.cmp .neq s 2) false) (A.cmp .neq s 4) false) (A.cmp .neq s 8) false) (A.cmp .neq s 16) false) (A.cmp .neq s 32) false) (A.cmp .neq s 64) false
def Zd (A:Alg) (x y s:Int):Bool:=A.ite (A.ite (A.ite (A.ite (A.ite (A.cmp .geq x 0) (A.cmp .geq y 0) false) (A.cmp .eql (A.bin .rem .i64 x s) 0) false) (A.cmp .eql (A.bin .rem .i64 y s) 0) false) (A.cmp .leq x (A.bin .sub .i64 64 s)) false) (A.cmp .leq y (A.bin .sub .i64 64 s)) false
structure QiF (A:Alg) (C:SC) (x y s:Int):Prop where
 c1:npw A s=true→false=C.is x y s
 nz:npw A s=false→A.cmp .neq s 0=true
 v:npw A s=false→Zd A x y s=C.is x y s
 im: ∀ b c,c=true→A.imp b c=true
theorem X9 (s:Int):npw aA s= !pw2 s:=by
 show(if(if(if(if(if(if(s != 1)=true then(s != 2) else false)=true then(s != 4) else false)=true then(s != 8) else false)=true then(s != 16) else false)=true then(s != 32) else false)=true then(s != 64) else false)=_
 unfold pw2
 by_cases h1:s=1 <;> by_cases h2:s=2 <;> by_cases h3:s=4 <;> by_cases h4:s=8 <;> by_cases h5:s=16 <;> by_cases h6:s=32 <;> by_cases h7:s=64 <;> simp[h1,h2,h3,h4,h5,h6,h7]
theorem ZD (A:Alg) (hA:A=aA) (C:SC) (hC:C=UT) (x y s:Int):QiF A C x y s:=by
 subst hA hC
 have hp:npw aA s=false→pw2 s=true:=fun h=>by rw[X9,Bool.not_eq_false'] at h;exact h
 refine⟨fun h=>?_,fun h=>?_,fun h=>?_,fun b c h=>by rw[h];cases b <;> rfl⟩
 ·rw[X9,Bool.not_eq_true'] at h
  show false=cIs x y s
  unfold cIs
  rw[h];rfl
 ·have:=Wo (hp h)
  show(s != 0)=true
  rw[bne_iff_ne];omega
 ·have hs:=hp h
  have hb:=Wo hs
  show Zd aA x y s=cIs x y s
  have e2:aA.bin .sub .i64 64 s=64 - s:=by show IntKind.i64.wrap _=_;rw[IntKind.wrap_i64];omega
  unfold Zd
  rw[e2]
  have it: ∀ u v:Bool,aA.ite u v false=(u&&v):=fun u v=>by cases u <;> rfl
  rw[it,it,it,it,it]
  show(((((decide (x ≥ 0)&&decide (y ≥ 0))&&(x.tmod s == 0))&&(y.tmod s == 0))&&decide (x≤64 - s))&&decide (y≤64 - s))=cIs x y s
  rw[Bool.eq_iff_iff]
  simp only[cIs,Bool.and_eq_true,decide_eq_true_eq,beq_iff_eq]
  constructor
  ·rintro⟨⟨⟨⟨⟨h1,h2⟩,h3⟩,h4⟩,h5⟩,h6⟩
   rw[Int.tmod_eq_emod_of_nonneg h1] at h3
   rw[Int.tmod_eq_emod_of_nonneg h2] at h4
   exact⟨⟨⟨⟨⟨⟨hs,h1⟩,h2⟩,h5⟩,h6⟩,h3⟩,h4⟩
  ·rintro⟨⟨⟨⟨⟨⟨_,h1⟩,h2⟩,h5⟩,h6⟩,h3⟩,h4⟩
   rw[Int.tmod_eq_emod_of_nonneg h1,Int.tmod_eq_emod_of_nonneg h2]
   exact⟨⟨⟨⟨⟨h1,h2⟩,h3⟩,h4⟩,h5⟩,h6⟩
theorem Vk:aJ Tryz.prog 15 (aC [.v] aA (Wq UT)):=by
 refine aH (un:=⟨false,some [0,1,2,3,31]⟩) tok nF aL (fn:=Tryz.f15) ?_
 intro w Wr args bs r hg ho hWr A L k hA hL hk
 obtain⟨C,hC⟩:=exE UT
 try rw[← hC]
 try rw[← hA]
 unfold Wq at hg
 split at hg <;> cases hg
 rename_i x y s
 have f:=ZD A hA C hC x y s
 cbv
 repeat' with_reducible first | (intro hb;cbv) | refine UM ?_ ?_
 ·refine hk _ _ (bE.pure rfl fun ρ=>BH ?_)
  rw[← hC]
  exact f.c1 hb
 ·exact f.im _ _ (f.nz (by assumption))
 ·exact f.im _ _ (f.nz (by assumption))
 ·refine hk _ _ (bE.pure rfl fun ρ=>yQ ?_)
  rw[← hC]
  exact f.v (by assumption)
def YV (A:Alg):List CV→List Blk→Option LW
 | [.s (.int .i64 k), .s (.hp 1 0)],[.vec true (.int .i64) l, .fix true [.s (.hs 0)]]=>some ⟨[A.cmp .leq (A.iadd (A.len l) (A.len [k])) 1000000], .c (.s (.tt true)),[.vec true (.int .i64) (A.app l [k])],[.gone, .fix true [.s (.hs 2)]]⟩
 | _,_=>none
def YX:List CV→List Blk→Option LW
 | [.s (.int .i64 k), .s (.hp 0 0)],[.fix true [.s (.bool b)]]=>some ⟨[], .c (.s (.tt false)),[],[.fix true [.s (.bool true)]]⟩
 | _,_=>none
theorem Yr:aJ Tryz.prog 41 (aR [.a .v, .a (.w [.sw (.int .i64)])] aA (YV aA)):=by
 refine aW (un:=⟨false,some [0,1,3]⟩) tok nF aL (fn:=Tryz.f41) ?_
 intro w Wr args bs r hg ho hWr A L k hA hL hk
 try rw[← hA]
 unfold YV at hg
 split at hg <;> cases hg
 rename_i k l
 have o1:=(aG ho).1
 rw[← hA] at o1
 clear ho
 cbv
 repeat' with_reducible first | (intro hb;cbv) | refine UM ?_ ?_
 ·exact o1
 exact hk _ _ (bW.cell (t:=3) (i:=0) (j:=1) rfl rfl rfl (.inl (Nat.le_of_ble_eq_true rfl)) (fun ρ=>rfl) rfl (.vec (by rw[hA])) rfl)
theorem Yt:aJ Tryz.prog 42 (aR [.a .v, .a (.w [.v])] aA (YX)):=by
 refine aW (un:=⟨false,some [0,1,3]⟩) tok nF aL (fn:=Tryz.f42) ?_
 intro w Wr args bs r hg ho hWr A L k hA hL hk
 try rw[← hA]
 unfold YX at hg
 split at hg <;> cases hg
 cbv
 exact hk _ _ (bW.wrote (i:=0) rfl rfl rfl (fun ρ=>rfl) rfl ⟨rfl,rfl,fun _=>rfl⟩)
def eE1 (A:Alg) (U:SU) (B:SB):List (Nat×bU):=(41,aR [.a .v, .a (.w [.sw (.int .i64)])] A (YV A)) :: (42,aR [.a .v, .a (.w [.v])] A (YX)) :: (46,aR [.g [.s .i3, .s .i3, .s .pt]] A (uI U)) :: (65,aR [.g [.s .i3, .s .i3, .s .pt], .a .v] A (E8 U)) :: (12,aC [.v, .v, .v] A (VW B)) :: ([])
theorem W0:COK Tryz.prog (aN (eE1 aA bN UP)):=aB Yr (aB Yt (aB wE (aB DZ (aB Vt (bC)))))
def YU (U:SU) (B:SB):List CV→List Blk→Option LW
 | [.g [.s (.hs 0), .s (.hs 1), .s (.hs 2)], .g [.s (.int .i64 x), .s (.int .i64 y), .s (.int .i64 s)], .s (.fn 42 [(3,0)])],[.vec false .i3 V, .vec false .i3 S, .vec false .pt l, .fix true [.s (.bool false)]]=>some ⟨[U.inb V], .t [],[],[.fix true [.s (.bool (B.any x y s V S l))]]⟩
 | _,_=>none
structure Ws (x y s:Int) (V S:List (Int×Int×Int)) (r:List Int) (k:Int) (R:List Int):Prop where
 k0:0≤k
 k1:k≤aY S
 e:R=r++V4 x y s V S k.toNat
theorem Wc (x y s:Int) (V S:List (Int×Int×Int)): ∀ k,(V4 x y s V S k).length≤k
 | 0=>Nat.le_refl _
 | k+1=>by
  have:=Wc x y s V S k
  unfold V4
  split
  ·rw[List.length_append];simp;omega
  ·omega
structure OfS (A:Alg) (U:SU) (B:SB) (x y s:Int) (V S:List (Int×Int×Int)) (r:List Int) (k:Int) (R:List Int):Prop where
 o1:A.cmp .leq 0 k=true
 cap:A.cmp .leq (A.iadd (A.len R) (A.len [k])) 1000000=true
 n1:B.seg x y s (U.pt V (A.get S k (0,0,0)).1) (U.pt V (A.get S k (0,0,0)).2.1)=true→Ws x y s V S r (k+1) (A.app R [k])
 n0:B.seg x y s (U.pt V (A.get S k (0,0,0)).1) (U.pt V (A.get S k (0,0,0)).2.1)=false→Ws x y s V S r (k+1) R
 ad:A.bin .add .i64 k 1=k+1
 ms:(aY S - (k+1)).toNat < (aY S - k).toNat
theorem Zp {x y s:Int} {V S:List (Int×Int×Int)} {r:List Int} {k:Int} {R:List Int} (hr:r.length≤1000) (hS:aY S < 1000) (h:Ws x y s V S r k R) (A:Alg) (hA:A=aA) (U:SU) (hU:U=bN) (B:SB) (hB:B=UP) (hb:A.cmp .lss k (A.len S)=true):OfS A U B x y s V S r k R:=by
 subst hA hU hB
 obtain⟨k0,k1,e⟩:=h
 have hb:k < aY S:=of_decide_eq_true hb
 have hl:R.length≤2000:=by
  rw[e,List.length_append]
  have:=Wc x y s V S k.toNat
  omega
 have ek:(k+1).toNat=k.toNat+1:=by omega
 have ek2:((k.toNat:Nat):Int)=k:=Int.toNat_of_nonneg k0
 refine⟨bJ _ rfl _ _ k0,bJ _ rfl _ _ (by show(R.length:Int)+1≤1000000;omega),fun h=>⟨by omega,by omega,?_⟩,fun h=>⟨by omega,by omega,?_⟩,by show IntKind.i64.wrap _=_;rw[IntKind.wrap_i64];omega,by omega⟩
 ·have h:VM x y s V S k=true:=h
  rw[ek,V4,ek2,if_pos h, ← List.append_assoc, ← e]
  rfl
 ·have h:VM x y s V S k=false:=h
  rw[ek,V4,ek2,if_neg (by rw[h];decide)]
  exact e
structure OfF (A:Alg) (U:SU) (B:SB) (x y s:Int) (V S:List (Int×Int×Int)) (l:List Pt) (r:List Int):Prop where
 c1:A.cmp .neq (U.check V S l) 0=true→A.app r (B.all x y s V S l)=r
 c0:A.cmp .neq (U.check V S l) 0=false→aY S < 1000
 en:A.cmp .neq (U.check V S l) 0=false→ ∀ k R,Ws x y s V S r k R→A.cmp .lss k (A.len S)=false→R=A.app r (B.all x y s V S l)
theorem Vo {V S:List (Int×Int×Int)} {l:List Pt} (h:Cm V S l=0):aY V < 1000∧aY S < 1000∧aY l < 1000:=by
 refine uF (l:=l) ?_
 unfold Cm at h
 cases hf:iO V S l
 ·rw[hf] at h;simp at h
 ·rfl
theorem Zo (A:Alg) (hA:A=aA) (U:SU) (hU:U=bN) (B:SB) (hB:B=UP) (x y s:Int) (V S:List (Int×Int×Int)) (l:List Pt) (r:List Int):OfF A U B x y s V S l r:=by
 subst hA hU hB
 have hz:aA.cmp .neq (bN.check V S l) 0=false→Cm V S l=0:=fun h=>by
  have h:(Cm V S l != 0)=false:=h
  simpa using h
 refine⟨fun h=>?_,fun h=>(Vo (hz h)).2.1,fun h k R hI hk=>?_⟩
 ·have h:(Cm V S l != 0)=true:=h
  rw[bne_iff_ne] at h
  show r++(if Cm V S l=0 then V4 x y s V S S.length else[])=r
  rw[if_neg h,List.append_nil]
 ·have hk: ¬ k < aY S:=of_decide_eq_false hk
  have:k=aY S:=by have:=hI.k1;omega
  show R=r++(if Cm V S l=0 then V4 x y s V S S.length else[])
  rw[if_pos (hz h),hI.e,this]
  rfl
structure Zv (A:Alg) (U:SU) (B:SB) (x y s:Int) (V S:List (Int×Int×Int)) (l:List Pt):Prop where
 c1:A.cmp .neq (U.check V S l) 0=true→false=B.any x y s V S l
 c0:A.cmp .neq (U.check V S l) 0=false→aY S < 1000
 yes:A.cmp .neq (U.check V S l) 0=false→cY (aY S) (VM x y s V S)=true→true=B.any x y s V S l
 no:A.cmp .neq (U.check V S l) 0=false→cY (aY S) (VM x y s V S)=false→false=B.any x y s V S l
theorem Zc (A:Alg) (hA:A=aA) (U:SU) (hU:U=bN) (B:SB) (hB:B=UP) (x y s:Int) (V S:List (Int×Int×Int)) (l:List Pt):Zv A U B x y s V S l:=by
 subst hA hU hB
 have hz:aA.cmp .neq (bN.check V S l) 0=false→Cm V S l=0:=fun h=>by
  have h:(Cm V S l != 0)=false:=h
  simpa using h
 have e:UP.any x y s V S l=(decide (Cm V S l=0)&&cY (aY S) (VM x y s V S)):=rfl
 refine⟨fun h=>?_,fun h=>(Vo (hz h)).2.1,fun h h2=>?_,fun h h2=>?_⟩
 ·have h:(Cm V S l != 0)=true:=h
  rw[bne_iff_ne] at h
  rw[e,decide_eq_false h];rfl
 ·rw[e,h2,decide_eq_true (hz h)];rfl
 ·rw[e,h2,Bool.and_false]
theorem Yq:aJ Tryz.prog 40 (aR [.g [.s .i3, .s .i3, .s .pt], .a .v, .a (.f [.w [.v]])] aA (YU bN UP)):=by
 refine aW (un:=⟨false,some [1000029,0,1,2,3,4,6,7,10,12,13,14,15,34]⟩) tok W0 aL (fn:=Tryz.f40) ?_
 intro w Wr args bs r hg ho hWr A L k hA hL hk
 obtain⟨B,hB⟩:=exE UP
 obtain⟨U,hU⟩:=exE bN
 try rw[← hB]
 try rw[← hU]
 try rw[← hA]
 unfold YU at hg
 split at hg <;> cases hg
 rename_i x y s V S l
 have o1:=(aG ho).1
 rw[← hU] at o1
 clear ho
 have f:=Zc A hA U hU B hB x y s V S l
 have hB2:=hB
 cbv
 repeat' with_reducible first | (intro hb;cbv) | refine UM ?_ ?_
 ·exact o1
 ·have e:=f.c1 hb
  exact hk _ _ (bW.wrote (i:=3) rfl rfl rfl (fun ρ=>rfl) rfl ⟨rfl,rfl,fun _=>by rw[← hB, ← e];rfl⟩)
 have hS:=f.c0 hb
 have yes:=f.yes hb
 have no:=f.no hb
 have i0:AnI (aY S) (VM x y s V S) 0:=cH (Int.natCast_nonneg _)
 clear f
 refine hL _ _ _ (aQ (un:=⟨false,some [1000029,0,1,2,3,4,6,7,10,12,13,14,15,34]⟩) tok W0 aL (fun k:Int=>⟨[(14,⟨[], .c (.s (.int .i64 k))⟩),(13,⟨[], .c (.s (.int .i64 (A.len S)))⟩),(12,⟨[], .c (.s (.hs 1))⟩),(4,⟨[], .c (.s (.hp 5 0))⟩),(3,⟨[], .c (.s (.hp 4 0))⟩),(2,⟨[], .c (.s (.fn 42 [(3,0)]))⟩)],[(0, .vec false .i3 V),(1, .vec false .i3 S),(2, .vec false .pt l),(4, .fix true [.s (.hs 0), .s (.hs 1), .s (.hs 2)]),(5, .fix true [.s (.int .i64 x), .s (.int .i64 y), .s (.int .i64 s)]),(3, .fix true [.s (.bool false)])],6⟩)
  (fun k=>AnI (aY S) (VM x y s V S) k) (fun k=>(aY S - k).toNat) 0 i0 ?_ (fun _ i hi=>by have:=hWr i hi;simp at this;show i < 6;omega) ?_)
 ·exact⟨⟨⟨rfl,rfl,fun _=>rfl⟩,⟨rfl,rfl,fun _=>rfl⟩,⟨rfl,rfl,fun _=>rfl⟩,⟨rfl,rfl,fun _=>rfl⟩,⟨rfl,rfl,fun _=>rfl⟩,⟨rfl,rfl,fun _=>rfl⟩,trivial⟩,⟨aF rfl,aF rfl,aF rfl,aF rfl,aF rfl,aF rfl,trivial⟩,rfl,rfl⟩
 clear i0
 rintro k hI A2 L2 k2 hA2 hL2 hnext hexit hret
 have hln:A2.len S=aY S:=by subst hA2;rfl
 have st:=fun hb:A2.cmp .lss k (A2.len S)=true=>c9 hI (by omega) A2 hA2 (by rw[← hln];exact hb)
 have en:=fun hb:A2.cmp .lss k (A2.len S)=false=>eK hI A2 hA2 (by rw[← hln];exact hb)
 have hp:B.seg x y s (U.pt V (A2.get S k (0,0,0)).1) (U.pt V (A2.get S k (0,0,0)).2.1)=VM x y s V S k:=by subst hA2 hU hB;rfl
 clear hI
 rw[hA, ← hA2, ← hU, ← hB]
 cbv
 repeat' with_reducible first | (intro hb;cbv) | refine UM ?_ ?_
 all_goals first | exact(st hb).o1 | exact hb | skip
 ·have st:=st hb
  have b1: ∀ b c,b=c→A2.beq b c=true:=fun b c h=>by subst hA2 h;show(b == b)=true;cases b <;> rfl
  have ead:=st.ad
  refine IL (B.seg x y s (U.pt V (A2.get S k (0,0,0)).1) (U.pt V (A2.get S k (0,0,0)).2.1)) (fun hc=>Or.inl ?_) (fun hc=>Or.inr ?_)
  ·repeat' with_reducible first | (intro hb;cbv) | refine UM ?_ ?_
   all_goals first | exact o1 | exact b1 _ _ hc | skip
   rw[hp] at hc
   have e:=yes (st.ht hc)
   apply hret
   clear hexit hnext hret st en
   cbv
   exact hk _ _ (bW.wrote (i:=3) rfl rfl rfl (fun ρ=>rfl) rfl ⟨rfl,rfl,fun _=>by rw[← hB, ← e];rfl⟩)
  ·repeat' with_reducible first | (intro hb;cbv) | refine UM ?_ ?_
   all_goals first | exact o1 | exact b1 _ _ hc | skip
   rw[hp] at hc
   refine hnext _ (k+1) (st.nx hc) st.ms ?_
   subst hA2 hA
   exact⟨⟨⟨rfl,rfl,leI ead⟩,⟨rfl,rfl,fun _=>rfl⟩,⟨rfl,rfl,fun _=>rfl⟩,⟨rfl,rfl,fun _=>rfl⟩,⟨rfl,rfl,fun _=>rfl⟩,⟨rfl,rfl,fun _=>rfl⟩,trivial⟩,⟨aF rfl,aF rfl,aF rfl,aF rfl,aF rfl,aF rfl,trivial⟩,rfl,rfl⟩
 ·have e:=no (en hb).no
  apply hexit
  clear hexit hnext hret st en
  cbv
  exact hk _ _ (bW.wrote (i:=3) rfl rfl rfl (fun ρ=>rfl) rfl ⟨rfl,rfl,fun _=>by rw[← hB, ← e];rfl⟩)
def W3 (U:SU) (B:SB):List CV→List Blk→Option LW
 | [.g [.s (.hs 0), .s (.hs 1), .s (.hs 2)], .g [.s (.int .i64 x), .s (.int .i64 y), .s (.int .i64 s)]],[.vec false .i3 V, .vec false .i3 S, .vec false .pt l]=>some ⟨[U.inb V], .c (.s (.bool (B.any x y s V S l))),[],[]⟩
 | _,_=>none
def eE3 (A:Alg) (U:SU) (B:SB):List (Nat×bU):=(40,aR [.g [.s .i3, .s .i3, .s .pt], .a .v, .a (.f [.w [.v]])] A (YU U B)) :: ([])
theorem YR:COK Tryz.prog (aN (eE3 aA bN UP)):=aB Yq (bC)
theorem WG:aJ Tryz.prog 18 (aR [.g [.s .i3, .s .i3, .s .pt], .a .v] aA (W3 bN UP)):=by
 refine aW (un:=⟨false,some [0,1,2,3,4,5,10]⟩) tok YR aL (fn:=Tryz.f18) ?_
 intro w Wr args bs r hg ho hWr A L k hA hL hk
 obtain⟨B,hB⟩:=exE UP
 obtain⟨U,hU⟩:=exE bN
 try rw[← hB]
 try rw[← hU]
 try rw[← hA]
 unfold W3 at hg
 split at hg <;> cases hg
 rename_i x y s V S l
 have o1:=(aG ho).1
 rw[← hU] at o1
 clear ho
 cbv
 repeat' with_reducible first | (intro hb;cbv) | refine UM ?_ ?_
 ·exact o1
 exact hk _ _ (bW.pure rfl rfl fun ρ=>dB (by subst hB;rfl))
def V7 (A:Alg) (U:SU) (C:SC) (B:SB):List CV→List Blk→Option LR
 | [.g [.s (.int .i64 x), .s (.int .i64 y), .s (.int .i64 s)], .g [.s (.int .i64 ax), .s (.int .i64 ay), .s (.int .i64 am)], .g [.s (.int .i64 bx), .s (.int .i64 by_), .s (.int .i64 bm)]],[]=>some ⟨[C.is x y s,A.not (U.out (ax,ay,am)),A.not (U.out (bx,by_,bm))], .c (.s (.bool (B.metI x y s ax ay bx by_))),[]⟩
 | _,_=>none
theorem Xf {p q:Int} (h1: -64≤p) (h2:p≤64) (h3: -64≤q) (h4:q≤64): -4096≤p*q∧p*q≤4096:=by
 have a:=Int.mul_nonneg (show 0≤64 - p by omega) (show 0≤64 - q by omega)
 have b:=Int.mul_nonneg (show 0≤64+p by omega) (show 0≤64+q by omega)
 have c:=Int.mul_nonneg (show 0≤64 - p by omega) (show 0≤64+q by omega)
 have d:=Int.mul_nonneg (show 0≤64+p by omega) (show 0≤64 - q by omega)
 constructor <;> grind
def tI (A:Alg) (ax ay bx by_ X Y:Int):Int:=A.bin .sub .i64 (A.bin .mul .i64 (A.bin .sub .i64 bx ax) (A.bin .sub .i64 Y ay)) (A.bin .mul .i64 (A.bin .sub .i64 by_ ay) (A.bin .sub .i64 X ax))
def coX (A:Alg) (x s i:Int):Int:=A.bin .add .i64 x (A.bin .mul .i64 i s)
def YG (A:Alg) (x y s ax ay bx by_:Int):Bool:=A.ite (A.ite (A.ite (A.cmp .lss (A.mx ax bx) x) true (A.cmp .gtr (A.mn ax bx) (A.bin .add .i64 x s))) true (A.cmp .lss (A.mx ay by_) y)) true (A.cmp .gtr (A.mn ay by_) (A.bin .add .i64 y s))
def Zk (A:Alg) (x y s ax ay bx by_:Int):Bool:=
 A.ite (A.ite (A.ite (A.ite (A.cmp .geq (tI A ax ay bx by_ (coX A x s 0) (coX A y s 0)) 0) true (A.cmp .geq (tI A ax ay bx by_ (coX A x s 1) (coX A y s 0)) 0)) true (A.cmp .geq (tI A ax ay bx by_ (coX A x s 0) (coX A y s 1)) 0)) true (A.cmp .geq (tI A ax ay bx by_ (coX A x s 1) (coX A y s 1)) 0))
  (A.ite (A.ite (A.ite (A.cmp .leq (tI A ax ay bx by_ (coX A x s 0) (coX A y s 0)) 0) true (A.cmp .leq (tI A ax ay bx by_ (coX A x s 1) (coX A y s 0)) 0)) true (A.cmp .leq (tI A ax ay bx by_ (coX A x s 0) (coX A y s 1)) 0)) true (A.cmp .leq (tI A ax ay bx by_ (coX A x s 1) (coX A y s 1)) 0)) false
structure MqF (A:Alg) (B:SB) (x y s ax ay bx by_:Int):Prop where
 c1:YG A x y s ax ay bx by_=true→false=B.metI x y s ax ay bx by_
 c0:YG A x y s ax ay bx by_=false→Zk A x y s ax ay bx by_=B.metI x y s ax ay bx by_
theorem Xg {a b c:Int} (h:aA.not (bN.out (a,b,c))=true):0≤a∧a≤64∧0≤b∧b≤64:=by
 have h:(!(!(decide (0≤a)&&decide (a≤64))|| !(decide (0≤b)&&decide (b≤64))))=true:=h
 simp at h
 omega
theorem ZC (A:Alg) (hA:A=aA) (U:SU) (hU:U=bN) (C:SC) (hC:C=UT) (B:SB) (hB:B=UP) {x y s ax ay am bx by_ bm:Int} (h:C.is x y s=true) (ha:A.not (U.out (ax,ay,am))=true) (hb:A.not (U.out (bx,by_,bm))=true):MqF A B x y s ax ay bx by_:=by
 subst hA hU hC hB
 obtain⟨s1,s2,x1,y1,x2,y2⟩:=XA h
 obtain⟨a1,a2,a3,a4⟩:=Xg ha
 obtain⟨b1,b2,b3,b4⟩:=Xg hb
 have w: ∀ z:Int, -9223372036854775808≤z→z < 9223372036854775808→IntKind.i64.wrap z=z:=fun z h1 h2=>by rw[IntKind.wrap_i64];omega
 have c0: ∀ x:Int,0≤x→x≤64→coX aA x s 0=x:=fun x h1 h2=>by
  show IntKind.i64.wrap (x+IntKind.i64.wrap (0*s))=x
  rw[Int.zero_mul,w 0 (by decide) (by decide),w _ (by omega) (by omega)];omega
 have c1: ∀ x:Int,0≤x→x≤64→coX aA x s 1=x+s:=fun x h1 h2=>by
  show IntKind.i64.wrap (x+IntKind.i64.wrap (1*s))=x+s
  rw[Int.one_mul,w s (by omega) (by omega),w _ (by omega) (by omega)]
 have t: ∀ X Y:Int,0≤X→X≤64→0≤Y→Y≤64→tI aA ax ay bx by_ X Y=crJ ax ay bx by_ X Y:=fun X Y h1 h2 h3 h4=>by
  show IntKind.i64.wrap (IntKind.i64.wrap (IntKind.i64.wrap (bx - ax)*IntKind.i64.wrap (Y - ay)) - IntKind.i64.wrap (IntKind.i64.wrap (by_ - ay)*IntKind.i64.wrap (X - ax)))=_
  have p:=Xf (p:=bx - ax) (q:=Y - ay) (by omega) (by omega) (by omega) (by omega)
  have q:=Xf (p:=by_ - ay) (q:=X - ax) (by omega) (by omega) (by omega) (by omega)
  rw[w (bx - ax) (by omega) (by omega),w (Y - ay) (by omega) (by omega),w (by_ - ay) (by omega) (by omega),w (X - ax) (by omega) (by omega),w ((bx - ax)*(Y - ay)) (by omega) (by omega),w ((by_ - ay)*(X - ax)) (by omega) (by omega),w ((bx - ax)*(Y - ay) - (by_ - ay)*(X - ax)) (by omega) (by omega)]
  rfl
 have it: ∀ u v:Bool,aA.ite u true v=(u||v):=fun u v=>by cases u <;> rfl
 have ia: ∀ u v:Bool,aA.ite u v false=(u&&v):=fun u v=>by cases u <;> rfl
 have e1:aA.bin .add .i64 x s=x+s:=w _ (by omega) (by omega)
 have e2:aA.bin .add .i64 y s=y+s:=w _ (by omega) (by omega)
 have cd:YG aA x y s ax ay bx by_=(decide (aA.mx ax bx < x)||(decide (aA.mn ax bx > x+s)||(decide (aA.mx ay by_ < y)||decide (aA.mn ay by_ > y+s)))):=by
  unfold YG
  rw[it,it,it,e1,e2,Bool.or_assoc,Bool.or_assoc]
  rfl
 have vl:Zk aA x y s ax ay bx by_=((decide (crJ ax ay bx by_ x y ≥ 0)||(decide (crJ ax ay bx by_ (x+s) y ≥ 0)||(decide (crJ ax ay bx by_ x (y+s) ≥ 0)||decide (crJ ax ay bx by_ (x+s) (y+s) ≥ 0))))&&
  (decide (crJ ax ay bx by_ x y≤0)||(decide (crJ ax ay bx by_ (x+s) y≤0)||(decide (crJ ax ay bx by_ x (y+s)≤0)||decide (crJ ax ay bx by_ (x+s) (y+s)≤0))))):=by
   unfold Zk
   rw[ia,it,it,it,it,it,it,c0 x x1 (by omega),c0 y y1 (by omega),c1 x x1 (by omega),c1 y y1 (by omega),t x y (by omega) (by omega) (by omega) (by omega),t (x+s) y (by omega) (by omega) (by omega) (by omega),t x (y+s) (by omega) (by omega) (by omega) (by omega),t (x+s) (y+s) (by omega) (by omega) (by omega) (by omega),Bool.or_assoc,Bool.or_assoc,Bool.or_assoc,Bool.or_assoc]
   rfl
 refine⟨fun h=>?_,fun h=>?_⟩
 ·rw[cd] at h
  show false=metI x y s ax ay bx by_
  unfold metI
  rw[h];rfl
 ·rw[cd] at h
  rw[vl]
  show _=metI x y s ax ay bx by_
  unfold metI
  rw[h];rfl
theorem WE:aJ Tryz.prog 39 (aC [.v, .v, .v] aA (V7 aA bN UT UP)):=by
 refine aH (un:=⟨true,some [3,4,5,6,7,8,9,10,11,12,56,58]⟩) tok nF aL (fn:=Tryz.f39) ?_
 intro w Wr args bs r hg ho hWr A L k hA hL hk
 obtain⟨B,hB⟩:=exE UP
 obtain⟨C,hC⟩:=exE UT
 obtain⟨U,hU⟩:=exE bN
 try rw[← hB]
 try rw[← hC]
 try rw[← hU]
 try rw[← hA]
 unfold V7 at hg
 split at hg <;> cases hg
 rename_i x y s ax ay am bx by_ bm
 have o1:=(aG ho).1
 have o2:=(aG (aG ho).2).1
 have o3:=(aG (aG (aG ho).2).2).1
 rw[← hU, ← hA] at o2 o3
 rw[← hC] at o1
 clear ho
 have f:=ZC A hA U hU C hC B hB o1 o2 o3
 clear o1 o2 o3
 cbv
 repeat' first | ((with_reducible intro hb);cbv) | with_reducible refine And.intro ?_ ?_
 ·refine hk _ _ (bE.pure rfl fun ρ=>BH ?_)
  rw[← hB]
  exact f.c1 hb
 ·refine hk _ _ (bE.pure rfl fun ρ=>yQ ?_)
  rw[← hB]
  exact f.c0 (by assumption)
def eF1 (A:Alg) (U:SU) (C:SC) (B:SB):List (Nat×bU):=(39,aC [.v, .v, .v] A (V7 A U C B)) :: ([])
theorem X3:COK Tryz.prog (aN (eF1 aA bN UT UP)):=aB WE (bC)
def XF (A:Alg) (U:SU) (C:SC) (B:SB):List CV→List Blk→Option LW
 | [.g [.s (.hs 0), .s (.hs 1), .s (.hs 2)], .g [.s (.int .i64 x), .s (.int .i64 y), .s (.int .i64 s)]],[.vec false .i3 V, .vec false .i3 S, .vec false .pt l]=>some ⟨[A.cmp .eql (U.check V S l) 0,C.is x y s], .c (.s (.hs 3)),[.vec true (.int .i64) (B.all x y s V S l)],[]⟩
 | _,_=>none
structure AqF (A:Alg) (U:SU) (C:SC) (B:SB) (x y s:Int) (V S:List (Int×Int×Int)) (k:Int) (R:List Int):Prop where
 o1:A.cmp .leq 0 k=true
 a0:A.cmp .leq 0 (A.get S k (0,0,0)).1=true
 a1:A.cmp .lss (A.get S k (0,0,0)).1 (A.len V)=true
 b0:A.cmp .leq 0 (A.get S k (0,0,0)).2.1=true
 b1:A.cmp .lss (A.get S k (0,0,0)).2.1 (A.len V)=true
 oa:A.not (U.out ((A.get V (A.get S k (0,0,0)).1 (0,0,0)).1,(A.get V (A.get S k (0,0,0)).1 (0,0,0)).2.1,(A.get V (A.get S k (0,0,0)).1 (0,0,0)).2.2))=true
 ob:A.not (U.out ((A.get V (A.get S k (0,0,0)).2.1 (0,0,0)).1,(A.get V (A.get S k (0,0,0)).2.1 (0,0,0)).2.1,(A.get V (A.get S k (0,0,0)).2.1 (0,0,0)).2.2))=true
 cap:A.cmp .leq (A.iadd (A.len R) (A.len [k])) 1000000=true
 n1:B.metI x y s (A.get V (A.get S k (0,0,0)).1 (0,0,0)).1 (A.get V (A.get S k (0,0,0)).1 (0,0,0)).2.1 (A.get V (A.get S k (0,0,0)).2.1 (0,0,0)).1 (A.get V (A.get S k (0,0,0)).2.1 (0,0,0)).2.1=true→Ws x y s V S [] (k+1) (A.app R [k])
 n0:B.metI x y s (A.get V (A.get S k (0,0,0)).1 (0,0,0)).1 (A.get V (A.get S k (0,0,0)).1 (0,0,0)).2.1 (A.get V (A.get S k (0,0,0)).2.1 (0,0,0)).1 (A.get V (A.get S k (0,0,0)).2.1 (0,0,0)).2.1=false→Ws x y s V S [] (k+1) R
 ad:A.bin .add .i64 k 1=k+1
 ms:(aY S - (k+1)).toNat < (aY S - k).toNat
theorem Zw {x y s:Int} {V S:List (Int×Int×Int)} {l:List Pt} {k:Int} {R:List Int} (hk:Cm V S l=0) (hc:Vq x y s=true) (h:Ws x y s V S [] k R) (A:Alg) (hA:A=aA) (U:SU) (hU:U=bN) (C:SC) (B:SB) (hB:B=UP) (hb:A.cmp .lss k (A.len S)=true):AqF A U C B x y s V S k R:=by
 have hS:=(Vo hk).2.1
 have f:=Zp (r:=[]) (by show 0≤1000;decide) hS h A hA U hU B hB hb
 subst hA hU hB
 have hb:k < aY S:=of_decide_eq_true hb
 have c:=Zn hk h.k0 hb
 have e:=W4 hk hc h.k0 hb
 have ha:=c.a
 have hbb:=c.b
 unfold nS at ha hbb
 simp only[Bool.and_eq_true,decide_eq_true_eq] at ha hbb
 have no: ∀ b:Bool,b=false→aA.not b=true:=fun b h=>by rw[h];rfl
 exact⟨f.o1,bJ _ rfl _ _ ha.1,bH _ rfl _ _ ha.2,bJ _ rfl _ _ hbb.1,bH _ rfl _ _ hbb.2,no _ c.oa,no _ c.ob,f.cap,fun g=>f.n1 (e.symm.trans g),fun g=>f.n0 (e.symm.trans g),f.ad,f.ms⟩
theorem XL:aJ Tryz.prog 16 (aR [.g [.s .i3, .s .i3, .s .pt], .a .v] aA (XF aA bN UT UP)):=by
 refine aW (un:=⟨false,some [0,1,2,3,4,5,6,11,35]⟩) tok X3 aL (fn:=Tryz.f16) ?_
 intro w Wr args bs r hg ho hWr A L k hA hL hk
 obtain⟨B,hB⟩:=exE UP
 obtain⟨C,hC⟩:=exE UT
 obtain⟨U,hU⟩:=exE bN
 try rw[← hB]
 try rw[← hC]
 try rw[← hU]
 try rw[← hA]
 unfold XF at hg
 split at hg <;> cases hg
 rename_i x y s V S l
 have o1:Cm V S l=0:=by
  have h:(Cm V S l == 0)=true:=(aG ho).1
  simpa using h
 have o2:=(aG (aG ho).2).1
 have o3:Vq x y s=true:=o2
 rw[← hC] at o2
 clear ho
 have i0:Ws x y s V S [] 0 []:=⟨Int.le_refl _,Int.natCast_nonneg _,rfl⟩
 have en:=fun k R=>(Zo A hA U hU B hB x y s V S l []).en (by subst hA hU;show(Cm V S l != 0)=false;rw[o1];rfl) k R
 cbv
 repeat' with_reducible first | (intro hb;cbv) | refine UM ?_ ?_
 refine hL _ _ _ (gM (un:=⟨false,some [0,1,2,3,4,5,6,11,35]⟩) tok X3 aL 3 (fun i hi=>by have:=hWr i hi;simp at this;show i < 3;omega) (fun p:Int×List Int=>⟨[(6,⟨[], .c (.s (.int .i64 p.1))⟩),(5,⟨[], .c (.s (.hs 5))⟩),(3,⟨[], .c (.s (.hp 4 0))⟩),(2,⟨[], .c (.s (.hp 3 0))⟩)],[(0, .vec false .i3 V),(1, .vec false .i3 S),(2, .vec false .pt l),(3, .fix true [.s (.hs 0), .s (.hs 1), .s (.hs 2)]),(4, .fix true [.s (.int .i64 x), .s (.int .i64 y), .s (.int .i64 s)]),(5, .vec true (.int .i64) p.2)],6⟩)
  (fun p=>Ws x y s V S [] p.1 p.2) (fun p=>(aY S - p.1).toNat) (0,[]) i0 [(5, .nils)] ?_ (fun _=>Nat.le_of_ble_eq_true rfl) ?_)
 ·exact⟨⟨⟨rfl,rfl,fun _=>rfl⟩,⟨rfl,rfl,fun _=>rfl⟩,⟨rfl,rfl,fun _=>rfl⟩,⟨rfl,rfl,fun _=>rfl⟩,trivial⟩,⟨⟨rfl,rfl,rfl,rfl,fun h=>h⟩,⟨rfl,rfl,rfl,rfl,fun h=>h⟩,⟨rfl,rfl,rfl,rfl,fun h=>h⟩,⟨rfl,rfl,fun _=>rfl⟩,⟨rfl,rfl,fun _=>rfl⟩,rfl,trivial⟩,rfl,rfl,rfl,rfl⟩
 clear i0
 rintro⟨k,R⟩ hI A2 L2 k2 hA2 hL2 hnext hexit hret
 have st:=fun hb=>Zw o1 o3 hI A2 hA2 U hU C B hB hb
 have en:=en k R hI
 rw[hA, ← hA2] at en
 clear hI
 rw[← hA2, ← hU, ← hC, ← hB]
 cbv
 repeat' with_reducible first | (intro hb;cbv) | refine UM ?_ ?_
 all_goals first | assumption | exact(st (by assumption)).o1 | exact(st (by assumption)).a0 | exact(st (by assumption)).a1 | exact(st (by assumption)).b0 | exact(st (by assumption)).b1 | exact(st (by assumption)).oa | exact(st (by assumption)).ob | exact(st (by assumption)).cap | skip
 ·have st:=st (by assumption)
  refine hnext _ (k+1,_) [(5, .hs 7)] (st.n1 hb) st.ms ?_
  have ead:=st.ad
  subst hA2 hA
  exact⟨⟨⟨rfl,rfl,leI ead⟩,⟨rfl,rfl,fun _=>rfl⟩,⟨rfl,rfl,fun _=>rfl⟩,⟨rfl,rfl,fun _=>rfl⟩,trivial⟩,⟨⟨rfl,rfl,rfl,rfl,fun h=>h⟩,⟨rfl,rfl,rfl,rfl,fun h=>h⟩,⟨rfl,rfl,rfl,rfl,fun h=>h⟩,⟨rfl,rfl,fun _=>rfl⟩,⟨rfl,rfl,fun _=>rfl⟩,⟨rfl,rfl,rfl,rfl,fun h=>h⟩,trivial⟩,rfl,rfl,rfl,rfl⟩
 ·have st:=st (by assumption)
  refine hnext _ (k+1,R) [] (st.n0 hb) st.ms ?_
  have ead:=st.ad
  subst hA2 hA
  exact⟨⟨⟨rfl,rfl,leI ead⟩,⟨rfl,rfl,fun _=>rfl⟩,⟨rfl,rfl,fun _=>rfl⟩,⟨rfl,rfl,fun _=>rfl⟩,trivial⟩,⟨⟨rfl,rfl,rfl,rfl,fun h=>h⟩,⟨rfl,rfl,rfl,rfl,fun h=>h⟩,⟨rfl,rfl,rfl,rfl,fun h=>h⟩,⟨rfl,rfl,fun _=>rfl⟩,⟨rfl,rfl,fun _=>rfl⟩,⟨rfl,rfl,rfl,rfl,fun h=>h⟩,trivial⟩,rfl,rfl,rfl,rfl⟩
 ·have e:=en hb
  apply hexit
  clear hexit hnext hret st en
  cbv
  exact hk _ _ (bW.one (t:=5) rfl rfl (Nat.le_of_ble_eq_true rfl) (fun ρ=>rfl) rfl (.vec (by subst hA hA2 hB;exact e)))
end Go.Eng
