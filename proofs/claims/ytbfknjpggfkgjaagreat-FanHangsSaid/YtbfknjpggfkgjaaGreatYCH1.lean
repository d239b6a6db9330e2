
import Derived.Test.YtbfknjpggfkgjaaGreatYCRB
import Derived.Test.YtbfknjpggfkgjaaGreatSpecP3
import Derived.Test.YtbfknjpggfkgjaaGreatEngZA
set_option linter.all false
set_option exponentiation.threshold 3000
set_option maxRecDepth 100000
set_option maxHeartbeats 2000000
namespace Go.Eng
open Go.Proofs
def adI (H:SH):List CV→List Blk→Option LR
 | [.g [.P x], .g [.P y]],[]=>some ⟨[], .c (.s (.int .i64 (H.cmp x y))),[]⟩
 | _,_=>none
def hA0 (A:Alg) (H:SH):List (Nat×bU):=(128,aC [.v, .v] A (CQ H)) :: ([])
theorem afI:COK Tryz.prog (aN (hA0 aA bD)):=aB yJ (bC)
theorem acV:aJ Tryz.prog 195 (aC [.v, .v] aA (adI bD)):=by
 refine aH (un:=⟨false,some [0,1,2,3,4,5]⟩) tok afI aL (fn:=Tryz.f195) ?_
 intro w Wr args bs r hg ho hWr A L k hA hL hk
 obtain⟨H,hH⟩:=exE bD
 try rw[← hH]
 try rw[← hA]
 unfold adI at hg
 split at hg <;> cases hg
 rename_i x y
 cbv
 repeat' with_reducible first | (intro hb;cbv) | refine UM ?_ ?_
 exact hk _ _ (bE.pure rfl fun ρ=>by subst hH;rfl)
def adH (A:Alg) (H:SH):List CV→List Blk→Option LR
 | [.g [.P x, .P y]],[]=>some ⟨[], .c (.s (.bool (A.cmp .gtr (H.cmp x y) 0))),[]⟩
 | _,_=>none
def hA1 (A:Alg) (H:SH):List (Nat×bU):=(195,aC [.v, .v] A (adI H)) :: ([])
theorem afJ:COK Tryz.prog (aN (hA1 aA bD)):=aB acV (bC)
theorem aaP:aJ Tryz.prog 164 (aC [.v] aA (adH aA bD)):=by
 refine aH (un:=⟨false,some [0,1,2]⟩) tok afJ aL (fn:=Tryz.f164) ?_
 intro w Wr args bs r hg ho hWr A L k hA hL hk
 obtain⟨H,hH⟩:=exE bD
 try rw[← hH]
 try rw[← hA]
 unfold adH at hg
 split at hg <;> cases hg
 rename_i x y
 cbv
 repeat' with_reducible first | (intro hb;cbv) | refine UM ?_ ?_
 exact hk _ _ (bE.pure rfl fun ρ=>by subst hH hA;rfl)
def ae6 (A:Alg) (I:SP):List CV→List Blk→Option LW
 | [.s (.hs 0), .g [.P p], .s (.fn 195 [])],[.vec false .pt l]=>some ⟨[A.cmp .lss (A.len l) 1000000], .t [.s (.int .i64 (I.pos l p)), .s (.bool (I.there l p))],[],[]⟩
 | _,_=>none
structure BsJ (l:List Pt) (p:Pt) (i j:Int):Prop where
 i0:0≤i
 ij:i≤j
 j1:j≤aY l
 e: ∃ f:Nat,j - i≤f∧bsF l p f i j=v5 l p
def agF (A:Alg) (i j:Int):Int:=A.wrap .i64 (A.bin .shr .u64 (A.wrap .u64 (A.bin .add .i64 i j)) 1)
def dP (A:Alg) (l:List Pt) (k:Int):Pt:=A.get l k ⟨⟨⟨false,A.zD⟩,⟨false,A.zD⟩⟩,⟨⟨false,A.zD⟩,⟨false,A.zD⟩⟩⟩
structure BsS (A:Alg) (H:SH) (l:List Pt) (p:Pt) (i j m:Int):Prop where
 o1:A.cmp .leq 0 m=true
 o2:A.cmp .lss m (A.len l)=true
 n1:A.cmp .lss (H.cmp (dP A l m) p) 0=true→BsJ l p (A.bin .add .i64 m 1) j∧(j - A.bin .add .i64 m 1).toNat < (j - i).toNat
 n0:A.cmp .lss (H.cmp (dP A l m) p) 0=false→BsJ l p i m∧(m - i).toNat < (j - i).toNat
theorem agA {l:List Pt} {p:Pt} {i j m:Int} (hl:aY l < 1000000) (h:BsJ l p i j) (hm:i < j→m=(i+j) / 2) (A:Alg) (hA:A=aA) (H:SH) (hH:H=bD) (hb:A.cmp .lss i j=true):BsS A H l p i j m:=by
 subst hA hH
 obtain⟨i0,ij,j1,f,hf,e⟩:=h
 have hb:i < j:=of_decide_eq_true hb
 obtain⟨g,hg,eg⟩:=acQ l p hf hb
 have hm:=hm hb
 have ad:aA.bin .add .i64 m 1=m+1:=by show IntKind.i64.wrap _=_;rw[IntKind.wrap_i64];omega
 refine⟨bJ _ rfl _ _ (by omega),bH _ rfl _ _ (by show m < aY l;omega),fun h=>?_,fun h=>?_⟩
 ·have h:bD.cmp (pC l m) p < 0:=of_decide_eq_true h
  rw[ad]
  rw[hm] at h ⊢
  rw[if_pos h] at eg
  exact⟨⟨by omega,by omega,j1,g,by omega,by rw[← eg,e]⟩,by omega⟩
 ·have h: ¬ bD.cmp (pC l m) p < 0:=of_decide_eq_false h
  rw[hm] at h ⊢
  rw[if_neg h] at eg
  exact⟨⟨i0,by omega,by omega,g,by omega,by rw[← eg,e]⟩,by omega⟩
theorem afN {l:List Pt} {p:Pt} {i j:Int} (hl:aY l < 1000000) (h:BsJ l p i j) (A:Alg) (hA:A=aA):i < j→agF A i j=(i+j) / 2:=fun hb=>by
 subst hA
 obtain⟨i0,ij,j1, -⟩:=h
 show IntKind.i64.wrap ((IntKind.u64.wrap (IntKind.i64.wrap (i+j))).fdiv (2 ^ min (1:Int).toNat 64))=_
 have e1:IntKind.i64.wrap (i+j)=i+j:=by rw[IntKind.wrap_i64];omega
 have e2:IntKind.u64.wrap (i+j)=i+j:=by rw[cX];omega
 rw[e1,e2]
 have e3:(2 ^ min (1:Int).toNat 64:Int)=2:=rfl
 rw[e3,Int.fdiv_eq_ediv_of_nonneg _ (by decide),IntKind.wrap_i64]
 omega
structure BsE (A:Alg) (H:SH) (I:SP) (l:List Pt) (p:Pt) (i:Int):Prop where
 o1:A.imp (A.beq (A.cmp .lss i (A.len l)) true) (A.cmp .leq 0 i)=true
 o2:A.imp (A.beq (A.cmp .lss i (A.len l)) true) (A.cmp .lss i (A.len l))=true
 pos:i=I.pos l p
 there:A.ite (A.cmp .lss i (A.len l)) (A.cmp .eql (H.cmp (dP A l i) p) 0) false=I.there l p
theorem af9 {l:List Pt} {p:Pt} {i j:Int} (h:BsJ l p i j) (A:Alg) (hA:A=aA) (H:SH) (hH:H=bD) (I:SP) (hI:I=f7) (hb:A.cmp .lss i j=false):BsE A H I l p i:=by
 subst hA hH hI
 obtain⟨i0,ij,j1,f,hf,e⟩:=h
 have hb: ¬ i < j:=of_decide_eq_false hb
 rw[acP l p f hb] at e
 refine⟨?_,?_,e,?_⟩
 ·rw[bJ _ rfl _ _ i0];cases aA.beq _ _ <;> rfl
 ·cases aA.cmp .lss i (aA.len l) <;> rfl
 ·have ia: ∀ u v:Bool,aA.ite u v false=(u&&v):=fun u v=>by cases u <;> rfl
  rw[ia,e]
  show(decide (v5 l p < aY l)&&(bD.cmp (pC l (v5 l p)) p == 0))=(decide (v5 l p < aY l)&&decide (bD.cmp (pC l (v5 l p)) p=0))
  congr 1
theorem afX {ρ ρ':Rho} {a c:Int} {b d:Bool} (h1:a=c) (h2:b=d):(XV.t [.s (.int .i64 a), .s (.bool b)]).den ρ=(XV.t [.s (.int .i64 c), .s (.bool d)]).den ρ':=by subst h1 h2;rfl
def hA2 (A:Alg) (H:SH):List (Nat×bU):=(195,aC [.v, .v] A (adI H)) :: ([])
theorem aeH:COK Tryz.prog (aN (hA2 aA bD)):=aB acV (bC)
theorem aeR:aJ Tryz.prog 84 (aR [.a (.s .pt), .a .v, .a (.f [])] aA (ae6 aA f7)):=by
 refine aW (un:=⟨false,some [0,1,2,4,6,7,8,9,10,11,17,31]⟩) tok aeH aL (fn:=Tryz.f84) ?_
 intro w Wr args bs r hg ho hWr A L k hA hL hk
 obtain⟨H,hH⟩:=exE bD
 obtain⟨I,hI⟩:=exE f7
 try rw[← hH]
 try rw[← hI]
 try rw[← hA]
 unfold ae6 at hg
 split at hg <;> cases hg
 rename_i p l
 have hlen:=(aG ho).1
 simp only[aA,aP,decide_eq_true_eq] at hlen
 have hlen:aY l < 1000000:=by unfold aY;omega
 clear ho
 have i0:BsJ l p 0 (A.len l):=by subst hA;exact⟨Int.le_refl _,Int.natCast_nonneg _,Int.le_refl _,l.length,by show(l.length:Int) - 0≤_;omega,rfl⟩
 cbv
 refine hL _ _ _ (aQ (un:=⟨false,some [0,1,2,4,6,7,8,9,10,11,17,31]⟩) tok aeH aL (fun q:Int×Int=>⟨[(10,⟨[], .c (.s (.int .i64 q.2))⟩),(9,⟨[], .c (.s (.int .i64 q.1))⟩),(8,⟨[], .c (.s (.int .i64 (A.len l)))⟩),(4,⟨[], .c (.s (.hp 1 0))⟩),(2,⟨[], .c (.s (.fn 195 []))⟩),(0,⟨[], .c (.s (.hs 0))⟩)],[(1, .fix true [.P p]),(0, .vec false .pt l)],2⟩)
  (fun q=>BsJ l p q.1 q.2) (fun q=>(q.2 - q.1).toNat) (0,A.len l) i0 ?_ (fun _ i hi=>by have:=hWr i hi;simp at this;show i < 2;omega) ?_)
 ·exact⟨⟨⟨rfl,rfl,fun _=>rfl⟩,⟨rfl,rfl,fun _=>rfl⟩,⟨rfl,rfl,fun _=>rfl⟩,⟨rfl,rfl,fun _=>rfl⟩,⟨rfl,rfl,fun _=>rfl⟩,⟨rfl,rfl,fun _=>rfl⟩,trivial⟩,⟨aF rfl,aF rfl,trivial⟩,rfl,rfl⟩
 clear i0
 rintro⟨i,j⟩ hJ A2 L2 k2 hA2 hL2 hnext hexit hret
 have st:=fun hb=>agA hlen hJ (afN hlen hJ A2 hA2) A2 hA2 H hH hb
 have en:=fun hb=>af9 hJ A2 hA2 H hH I hI hb
 clear hJ
 rw[hA, ← hA2, ← hH]
 cbv
 repeat' with_reducible first | (intro hb;cbv) | refine UM ?_ ?_
 all_goals first | exact(st (by assumption)).o1 | exact(st (by assumption)).o2 | skip
 ·obtain⟨nx,ms⟩:=(st (by assumption)).n1 hb
  refine hnext _ (_,j) nx ms ?_
  subst hA2 hA
  exact⟨⟨⟨rfl,rfl,fun _=>rfl⟩,⟨rfl,rfl,fun _=>rfl⟩,⟨rfl,rfl,fun _=>rfl⟩,⟨rfl,rfl,fun _=>rfl⟩,⟨rfl,rfl,fun _=>rfl⟩,⟨rfl,rfl,fun _=>rfl⟩,trivial⟩,⟨aF rfl,aF rfl,trivial⟩,rfl,rfl⟩
 ·obtain⟨nx,ms⟩:=(st (by assumption)).n0 hb
  refine hnext _ (i,_) nx ms ?_
  subst hA2 hA
  exact⟨⟨⟨rfl,rfl,fun _=>rfl⟩,⟨rfl,rfl,fun _=>rfl⟩,⟨rfl,rfl,fun _=>rfl⟩,⟨rfl,rfl,fun _=>rfl⟩,⟨rfl,rfl,fun _=>rfl⟩,⟨rfl,rfl,fun _=>rfl⟩,trivial⟩,⟨aF rfl,aF rfl,trivial⟩,rfl,rfl⟩
 ·have e:=en hb
  have eA:A2=A:=hA2.trans hA.symm
  apply hexit
  clear hexit hnext hret st en
  subst eA
  cbv
  repeat' with_reducible first | (intro hb;cbv) | refine UM ?_ ?_
  all_goals first | exact e.o1 | exact e.o2 | skip
  refine hk _ _ (bW.pure rfl rfl fun ρ=>?_)
  have e1:=e.pos
  have e2:=e.there
  subst hI
  exact afX e1 e2
def hA3 (A:Alg) (I:SP):List (Nat×bU):=(84,aR [.a (.s .pt), .a .v, .a (.f [])] A (ae6 A I)) :: ([])
end Go.Eng
