
import Derived.Test.YtlonkgccgccieaaNA1
set_option linter.all false
set_option exponentiation.threshold 3000
set_option maxRecDepth 100000
set_option maxHeartbeats 2000000
namespace Go.Eng
open Go.Proofs
def alL (A:Alg) (I:SP):List CV→List Blk→Option LW
 | [.s (.hs 0), .g [.P p], .s (.fn 66 [])],[.vec false .pt l]=>some ⟨[A.cmp .lss (A.len l) 1000000], .t [.s (.int .i64 (I.pos l p)), .s (.bool (I.there l p))],[],[]⟩
 | _,_=>none
def nA2 (A:Alg) (H:SH):List (Nat×bU):=(66,aC [.v, .v] A (adI H)) :: ([])
theorem akS:COK Try.prog (aN (nA2 aA bD)):=aB ajL (bC)
theorem ak2:aJ Try.prog 69 (aR [.a (.s .pt), .a .v, .a (.f [])] aA (alL aA f7)):=by
 refine aW (un:=⟨false,some [0,1,2,4,6,7,8,9,10,11,17,31]⟩) tok akS aL (fn:=Try.f69) ?_
 intro w Wr args bs r hg ho hWr A L k hA hL hk
 obtain⟨H,hH⟩:=exE bD
 obtain⟨I,hI⟩:=exE f7
 try rw[← hH]
 try rw[← hI]
 try rw[← hA]
 unfold alL at hg
 split at hg <;> cases hg
 rename_i p l
 have hlen:=(aG ho).1
 simp only[aA,aP,decide_eq_true_eq] at hlen
 have hlen:aY l < 1000000:=by unfold aY;omega
 clear ho
 have i0:BsJ l p 0 (A.len l):=by subst hA;exact⟨Int.le_refl _,Int.natCast_nonneg _,Int.le_refl _,l.length,by show(l.length:Int) - 0≤_;omega,rfl⟩
 cbv
 refine hL _ _ _ (aQ (un:=⟨false,some [0,1,2,4,6,7,8,9,10,11,17,31]⟩) tok akS aL (fun q:Int×Int=>⟨[(10,⟨[], .c (.s (.int .i64 q.2))⟩),(9,⟨[], .c (.s (.int .i64 q.1))⟩),(8,⟨[], .c (.s (.int .i64 (A.len l)))⟩),(4,⟨[], .c (.s (.hp 1 0))⟩),(2,⟨[], .c (.s (.fn 66 []))⟩),(0,⟨[], .c (.s (.hs 0))⟩)],[(1, .fix true [.P p]),(0, .vec false .pt l)],2⟩)
  (fun q=>BsJ l p q.1 q.2) (fun q=>(q.2 - q.1).toNat) (0,A.len l) i0 ?_ (fun _ i hi=>by have:=hWr i hi;simp at this;show i < 2;omega) ?_)
 ·exact⟨⟨⟨rfl,rfl,fun _=>rfl⟩,⟨rfl,rfl,fun _=>rfl⟩,⟨rfl,rfl,fun _=>rfl⟩,⟨rfl,rfl,fun _=>rfl⟩,⟨rfl,rfl,fun _=>rfl⟩,⟨rfl,rfl,fun _=>rfl⟩,trivial⟩,⟨aF rfl,aF rfl,trivial⟩,rfl,rfl⟩
 clear i0
 rintro⟨i,j⟩ hJ A2 L2 k2 nA2 hL2 hnext hexit hret
 have st:=fun hb=>agA hlen hJ (afN hlen hJ A2 nA2) A2 nA2 H hH hb
 have en:=fun hb=>af9 hJ A2 nA2 H hH I hI hb
 clear hJ
 rw[hA, ← nA2, ← hH]
 cbv
 repeat' with_reducible first | (intro hb;cbv) | refine UM ?_ ?_
 all_goals first | exact(st (by assumption)).o1 | exact(st (by assumption)).o2 | skip
 ·obtain⟨nx,ms⟩:=(st (by assumption)).n1 hb
  refine hnext _ (_,j) nx ms ?_
  subst nA2 hA
  exact⟨⟨⟨rfl,rfl,fun _=>rfl⟩,⟨rfl,rfl,fun _=>rfl⟩,⟨rfl,rfl,fun _=>rfl⟩,⟨rfl,rfl,fun _=>rfl⟩,⟨rfl,rfl,fun _=>rfl⟩,⟨rfl,rfl,fun _=>rfl⟩,trivial⟩,⟨aF rfl,aF rfl,trivial⟩,rfl,rfl⟩
 ·obtain⟨nx,ms⟩:=(st (by assumption)).n0 hb
  refine hnext _ (i,_) nx ms ?_
  subst nA2 hA
  exact⟨⟨⟨rfl,rfl,fun _=>rfl⟩,⟨rfl,rfl,fun _=>rfl⟩,⟨rfl,rfl,fun _=>rfl⟩,⟨rfl,rfl,fun _=>rfl⟩,⟨rfl,rfl,fun _=>rfl⟩,⟨rfl,rfl,fun _=>rfl⟩,trivial⟩,⟨aF rfl,aF rfl,trivial⟩,rfl,rfl⟩
 ·have e:=en hb
  have eA:A2=A:=nA2.trans hA.symm
  apply hexit
  clear hexit hnext hret st en
  subst eA
  cbv
  repeat' with_reducible first | (intro hb;cbv) | refine UM ?_ ?_
  all_goals first | exact e.o1 | exact e.o2 | skip
  refine hk _ _ (bW.pure rfl rfl fun ρ=>?_)
  have e1:=e.pos
  have e2:=e.there
  subst hI
  exact afX e1 e2
def ajG (A:Alg) (I:SP):List CV→List Blk→Option LW
 | [.s (.hs 0), .g [.P p]],[.vec false .pt l]=>some ⟨[A.cmp .lss (A.len l) 1000000], .c (.s (.int .i64 (I.find l p))),[],[]⟩
 | _,_=>none
def nA3 (A:Alg) (H:SH) (I:SP):List (Nat×bU):=(69,aR [.a (.s .pt), .a .v, .a (.f [])] A (alL A I)) :: (64,aC [.v] A (C1 H)) :: ([])
theorem alP:COK Try.prog (aN (nA3 aA bD f7)):=aB ak2 (aB DQ (bC))
structure FdN (A:Alg) (H:SH) (I:SP) (l:List Pt) (p:Pt):Prop where
 no:A.not (H.all [p])=true→ -1=I.find l p
 n:A.not (H.all [p])=false→A.not (I.there l p)=true→ -1=I.find l p
 y:A.not (H.all [p])=false→A.not (I.there l p)=false→I.pos l p=I.find l p
theorem al8 (A:Alg) (hA:A=aA) (H:SH) (hH:H=bD) (I:SP) (hI:I=f7) (l:List Pt) (p:Pt):FdN A H I l p:=by
 subst hA hH hI
 have hn: ∀ b:Bool,aA.not b= !b:=fun b=>rfl
 have ea:bD.all [p]=dJ p:=by show(dJ p&&true)=_;rw[Bool.and_true]
 have ef:f7.find l p=if dJ p&&i8 l p then r5 l p else -1:=rfl
 have et:f7.there l p=i8 l p:=rfl
 refine⟨fun h=>?_,fun h h2=>?_,fun h h2=>?_⟩ <;> rw[ef]
 ·rw[hn,ea,Bool.not_eq_true'] at h;rw[h];rfl
 ·rw[hn,Bool.not_eq_true',et] at h2;rw[h2,Bool.and_false];rfl
 ·rw[hn,ea,Bool.not_eq_false'] at h;rw[hn,Bool.not_eq_false',et] at h2;rw[h,h2];rfl
theorem aiT:aJ Try.prog 39 (aR [.a (.s .pt), .a .v] aA (ajG aA f7)):=by
 refine aW (un:=⟨false,some [0,1,3,4,5,6,9,17]⟩) tok alP aL (fn:=Try.f39) ?_
 intro w Wr args bs r hg ho hWr A L k hA hL hk
 obtain⟨H,hH⟩:=exE bD
 obtain⟨I,hI⟩:=exE f7
 try rw[← hH]
 try rw[← hI]
 try rw[← hA]
 unfold ajG at hg
 split at hg <;> cases hg
 rename_i p l
 have o1:=(aG ho).1
 rw[← hA] at o1
 clear ho
 have f:=al8 A hA H hH I hI l p
 cbv
 repeat' with_reducible first | (intro hb;cbv) | refine UM ?_ ?_
 ·have e:=f.no hb
  subst hI
  exact hk _ _ (bW.pure rfl rfl fun ρ=>dL e)
 ·exact o1
 ·have e:=f.n (by assumption) hb
  subst hI
  exact hk _ _ (bW.pure rfl rfl fun ρ=>dL e)
 ·have e:=f.y (by assumption) hb
  subst hI
  exact hk _ _ (bW.pure rfl rfl fun ρ=>dI e)
end Go.Eng
