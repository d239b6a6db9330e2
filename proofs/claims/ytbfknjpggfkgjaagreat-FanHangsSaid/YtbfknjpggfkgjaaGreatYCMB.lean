
import Derived.Test.YtbfknjpggfkgjaaGreatYCMA
import Derived.Test.YtbfknjpggfkgjaaGreatYSpecMA
set_option linter.all false
set_option exponentiation.threshold 40000
set_option maxRecDepth 100000
set_option maxHeartbeats 1000000
namespace Go.Eng
open Go.Proofs
def JE (A:Alg) (M:SM):List CV→List Blk→Option LR
 | [.s (.hs 0), .s (.int .i64 n)],[.vec false (.int .u32) l]=>some ⟨[M.ok l,M.sOK l n], .c (.s (.hs 1)),[.vec false (.int .u32) (M.shl l n)]⟩
 | _,_=>none
theorem yZ (a b:Int) (h0:0≤a) (h1:a < 4294967296) (h2:0≤b) (h3:b < 4294967296):aD .or .u32 a b=((a.toNat||| b.toNat:Nat):Int):=by
 have e1:=cE 32 a h0 (by omega)
 have e2:=cE 32 b h2 (by omega)
 have h4:a.toNat||| b.toNat < 2 ^ 32:=Nat.or_lt_two_pow (by omega) (by omega)
 show IntKind.u32.wrap ((BitVec.ofInt 32 a||| BitVec.ofInt 32 b).toNat:Int)=_
 rw[BitVec.toNat_or,e1,e2,IntKind.wrap_u32]
 omega
structure ShM (l:List Int) (n i:Int) (R:List Int):Prop where
 i0:0≤i
 i1:i≤(l.length:Int)
 len:R.length=l.length+n.toNat / 32+1
 w:W32 R
 eq:aM R=aM (l.take i.toNat)*2 ^ n.toNat
structure Iz (A:Alg) (M:SM) (l:List Int) (n q:Int):Prop where
 z:A.cmp .eql (A.len l) 0=true→M.shl l n=[]
 o1:A.cmp .leq 0 q=true
 o2:A.cmp .eql q q=true
 o3:A.cmp .leq q 1000000=true
 i0:ShM l n 0 (A.rep q 0)
theorem vF {n:Int} (n0:0≤n) (n1:n≤32000):aA.bin .quo .i64 n 32=((n.toNat / 32:Nat):Int)∧aA.bin .rem .i64 n 32=((n.toNat % 32:Nat):Int):=by
 constructor
 ·show IntKind.i64.wrap (n.tdiv 32)=_
  rw[Int.tdiv_eq_ediv_of_nonneg n0,IntKind.wrap_i64];omega
 ·show n.tmod 32=_
  rw[Int.tmod_eq_emod_of_nonneg n0];omega
theorem Hf {l:List Int} (hl:Mag l) {n:Int} (n0:0≤n) (n1:n≤32000) (A:Alg) (hA:A=aA) (M:SM) (hM:M=aZ) (q:Int) (hq:q=A.bin .add .i64 (A.bin .add .i64 (A.len l) (A.bin .quo .i64 n 32)) 1):Iz A M l n q:=by
 subst hA hM
 have hn:=hl.n
 have e:q=((l.length+n.toNat / 32+1:Nat):Int):=by
  rw[hq,(vF n0 n1).1]
  show aD .add .i64 (aD .add .i64 (l.length:Int) _) 1=_
  simp only[aD,IntKind.wrap_i64];omega
 exact {
  z:=fun h=>by
   have h:((l.length:Int) == 0)=true:=h
   simp only[beq_iff_eq] at h
   have:l=[]:=List.eq_nil_of_length_eq_zero (by omega)
   subst this
   show bS (aM []*2 ^ n.toNat)=[]
   rw[aM,Nat.zero_mul];rfl
  o1:=bJ _ rfl _ _ (by omega)
  o2:=by show(q == q)=true;simp
  o3:=bJ _ rfl _ _ (by omega)
  i0:=by
   have:aA.rep q (0:Int)=List.replicate (l.length+n.toNat / 32+1) 0:=by show List.replicate q.toNat 0=_;rw[e,Int.toNat_natCast]
   rw[this]
   exact⟨Int.le_refl 0,by omega,by simp,W32.rep0 _,by rw[kQ];simp[aM]⟩ }
structure IA (A:Alg) (l:List Int) (n i:Int) (R:List Int) (x j a:Int):Prop where
 o1:A.cmp .leq 0 i=true
 o3:A.cmp .leq 0 j=true
 o4:A.cmp .lss j (A.len R)=true
 o5:A.cmp .leq 0 (A.bin .add .i64 j 1)=true
 o6:A.cmp .lss (A.bin .add .i64 j 1) (A.len (A.set R j a))=true
 o7:A.cmp .geq (A.wrap .u64 (A.bin .rem .i64 n 32)) 0=true
 nx:ShM l n (i+1) (A.set (A.set R j a) (A.bin .add .i64 j 1) (A.wrap .u32 (A.bin .shr .u64 x 32)))
 ad:A.bin .add .i64 i 1=i+1
 ms:((l.length:Int) - (i+1)).toNat < ((l.length:Int) - i).toNat
theorem Hg {l:List Int} (hl:Mag l) {n:Int} (n0:0≤n) (n1:n≤32000) {i:Int} {R:List Int} (hI:ShM l n i R) (A:Alg) (hA:A=aA) (hb:A.cmp .lss i (A.len l)=true) (x j a:Int)
  (hx:x=A.bin .shl .u64 (A.wrap .u64 (A.get l i 0)) (A.wrap .u64 (A.bin .rem .i64 n 32))) (hj:j=A.bin .add .i64 i (A.bin .quo .i64 n 32)) (ha:a=A.bin .or .u32 (A.get R j 0) (A.wrap .u32 x)):IA A l n i R x j a:=by
 subst hA
 have hn:=hl.n
 obtain⟨i0,i1,hlen,hw,heq⟩:=hI
 have hb:i < (l.length:Int):=of_decide_eq_true hb
 obtain⟨q1,q2⟩:=vF n0 n1
 have ej:j=i+((n.toNat / 32:Nat):Int):=by rw[hj,q1];show aD .add .i64 i _=_;simp only[aD,IntKind.wrap_i64];omega
 have ejn:j.toNat=i.toNat+n.toNat / 32:=by omega
 have ej1:aA.bin .add .i64 j 1=j+1:=by show aD .add .i64 j 1=_;simp only[aD,IntKind.wrap_i64];omega
 have gl:=hl.w.getD i.toNat
 have gr:=hw.getD j.toNat
 obtain⟨s,hs⟩: ∃ s:Nat,s=n.toNat % 32:=⟨_,rfl⟩
 have hs32:s < 32:=by omega
 have ew:aA.wrap .u64 (aA.bin .rem .i64 n 32)=(s:Int):=by rw[q2, ← hs];show IntKind.u64.wrap _=_;rw[cX];omega
 have hps:2 ^ s≤2 ^ 31:=Nat.pow_le_pow_right (by decide) (by omega)
 have hpi:((2 ^ s:Nat):Int)=(2:Int) ^ s:=by simp
 obtain⟨y,hy⟩: ∃ y:Nat,(y:Int)=l.getD i.toNat 0:=⟨(l.getD i.toNat 0).toNat,by omega⟩
 have hyp:y*2 ^ s≤4294967295*2 ^ 31:=Nat.mul_le_mul (by omega) hps
 have ex:x=l.getD i.toNat 0*2 ^ s:=by
  rw[hx,ew]
  show IntKind.u64.wrap (IntKind.u64.wrap (l.getD i.toNat 0)*2 ^ min (s:Int).toNat 64)=_
  have e1:IntKind.u64.wrap (l.getD i.toNat 0)=l.getD i.toNat 0:=by rw[cX];omega
  rw[e1,Int.toNat_natCast,Nat.min_eq_left (by omega), ← hy, ← hpi, ← Int.natCast_mul,cX]
  omega
 have ex0:x=((y*2 ^ s:Nat):Int):=by rw[ex, ← hy, ← hpi, ← Int.natCast_mul]
 have e1:aA.wrap .u32 x=x % 4294967296:=by show IntKind.u32.wrap x=_;rw[IntKind.wrap_u32]
 have e2:aA.wrap .u32 (aA.bin .shr .u64 x 32)=x / 4294967296:=by
  show IntKind.u32.wrap (aD .shr .u64 x 32)=_
  rw[gK _ (by omega),IntKind.wrap_u32];omega
 have ea:a=(((R.getD j.toNat 0).toNat||| (x % 4294967296).toNat:Nat):Int):=by
  rw[ha,e1]
  exact yZ _ _ gr.1 gr.2 (by omega) (by omega)
 have hdm:n.toNat=32*(n.toNat / 32)+s:=by omega
 have hval:aM R < 2 ^ (32*j.toNat+s):=by
  rw[heq,ejn,show 32*(i.toNat+n.toNat / 32)+s=32*i.toNat+n.toNat by omega,Nat.pow_add]
  have h1:=dU (hl.w.take i.toNat)
  rw[List.length_take,Nat.min_eq_left (by omega)] at h1
  exact Nat.mul_lt_mul_of_pos_right h1 (Nat.two_pow_pos _)
 obtain⟨g1,g2,g3⟩:=Ap R j.toNat s (l.getD i.toNat 0) x a (x / 4294967296) hw (by omega) hs32 gl.1 gl.2 hval ex ea rfl
 have e3:aA.set (aA.set R j a) (aA.bin .add .i64 j 1) (aA.wrap .u32 (aA.bin .shr .u64 x 32))=(R.set j.toNat a).set (j.toNat+1) (x / 4294967296):=by
  rw[e2,ej1]
  show(R.set j.toNat a).set (j+1).toNat _=_
  rw[show(j+1).toNat=j.toNat+1 by omega]
 exact {
  o1:=bJ _ rfl _ _ i0
  o3:=bJ _ rfl _ _ (by omega)
  o4:=bH _ rfl _ _ (by show j < (R.length:Int);omega)
  o5:=by rw[ej1];exact bJ _ rfl _ _ (by omega)
  o6:=by rw[ej1];exact bH _ rfl _ _ (by show j+1 < ((R.set j.toNat a).length:Int);rw[List.length_set];omega)
  o7:=by rw[ew];show decide ((s:Int) ≥ 0)=true;exact decide_eq_true (by omega)
  nx:=by
   rw[e3]
   refine⟨by omega,by omega,?_,g1,?_⟩
   ·rw[List.length_set,List.length_set];exact hlen
   ·rw[g2,heq,show(i+1).toNat=i.toNat+1 by omega,fY,Nat.add_mul,ejn,Nat.mul_add,Nat.pow_add]
    congr 1
    conv=>rhs;rw[hdm,Nat.pow_add]
    generalize 2 ^ (32*i.toNat)=P
    generalize 2 ^ (32*(n.toNat / 32))=Q
    generalize (l.getD i.toNat 0).toNat=u
    generalize 2 ^ s=W
    rw[Nat.mul_assoc,Nat.mul_assoc,Nat.mul_left_comm Q u W]
  ad:=by show aD .add .i64 i 1=i+1;simp only[aD,IntKind.wrap_i64];omega
  ms:=by omega }
theorem Lk {l:List Int} (hl:Mag l) {n:Int} (n0:0≤n) (n1:n≤32000) {i:Int} {R:List Int} (hI:ShM l n i R) (A:Alg) (hA:A=aA) (X:SX) (hX:X=bR) (B:SM) (hB:B=aZ) (hb:A.cmp .lss i (A.len l)=false):sB A X R (B.shl l n):=by
 subst hB
 obtain⟨i0,i1,hlen,hw,heq⟩:=hI
 have hln:=hl.n
 refine qY hw (by omega) ?_ A hA X hX
 subst hA
 have hb: ¬ i < (l.length:Int):=of_decide_eq_false hb
 rw[List.take_of_length_le (by omega)] at heq
 exact heq
theorem KB:aJ Tryz.prog 180 (bV [.s (.int .u32), .v] aA (JE aA aZ)):=by
 refine dM (un:=⟨false,some [0,1,4,5,6,7,10,21]⟩) tok LE aL (fn:=Tryz.f180) ?_
 intro w Wr args bs r hg ho hWr A L k hA hL hk
 obtain⟨M,hM⟩:=exE aZ
 obtain⟨S,hS⟩:=exE aV
 obtain⟨V,hV⟩:=exE aS
 obtain⟨X,hX⟩:=exE bR
 try rw[← hM]
 try rw[← hS]
 try rw[← hV]
 try rw[← hX]
 try rw[← hA]
 unfold JE at hg
 split at hg <;> cases hg
 rename_i n l
 have hl:Mag l:=aX.1 ((aG ho).1)
 have hn:0≤n∧n≤32000:=by
  have h:(decide (0≤n)&&decide (n≤32000))=true:=(aG (aG ho).2).1
  simpa using h
 have n0:=hn.1
 have n1:=hn.2
 clear ho hn
 have hd:=Hf hl n0 n1 A hA M hM _ rfl
 cbv
 repeat' with_reducible first | (intro hb;cbv) | refine UM ?_ ?_
 all_goals first | exact hd.o1 | exact hd.o2 | exact hd.o3 | skip
 ·have hz:=hd.z hb
  subst hM
  exact hk _ _ (iV.one .nils _ rfl (fun ρ=>Lc) (fO.nils hz))
 have i0:=hd.i0
 clear hd hb
 refine hL _ _ _ (aQ (un:=⟨false,some [0,1,4,5,6,7,21]⟩) tok LE aL (fun p:Int×List Int=>⟨[(6,⟨[], .c (.s (.int .i64 p.1))⟩),(5,⟨[], .c (.s (.hs 1))⟩),(0,⟨[], .c (.s (.hs 0))⟩),(1,⟨[], .c (.s (.int .i64 n))⟩)],[(0, .vec false (.int .u32) l),(1, .vec true (.int .u32) p.2)],2⟩)
  (fun p=>ShM l n p.1 p.2) (fun p=>((l.length:Int) - p.1).toNat) (0,_) i0 ?_ (fun _ i hi=>by have:=hWr i hi;simp at this;show i < 2;omega) ?_)
 ·exact⟨⟨⟨rfl,rfl,fun _=>rfl⟩,⟨rfl,rfl,fun _=>rfl⟩,⟨rfl,rfl,fun _=>rfl⟩,⟨rfl,rfl,fun _=>rfl⟩,trivial⟩,⟨aF rfl,aF rfl,trivial⟩,rfl,rfl⟩
 clear i0
 rintro⟨i,R⟩ hI A2 L2 k2 hA2 hL2 hnext hexit hret
 have st:=fun hb=>Hg hl n0 n1 hI A2 hA2 hb _ _ _ rfl rfl rfl
 have en:=fun hb=>Lk hl n0 n1 hI A hA X hX M hM (by rw[hA, ← hA2];exact hb)
 clear hI
 rw[← hA2, ← hS, ← hV, ← hX, ← hM]
 cbv
 repeat' with_reducible first | (intro hb;cbv) | refine UM ?_ ?_
 all_goals first | exact(st hb).o1 | exact hb | exact(st hb).o3 | exact(st hb).o4 | exact(st hb).o5 | exact(st hb).o6 | exact(st hb).o7 | skip
 ·refine hnext _ (i+1,_) (st hb).nx (st hb).ms ?_
  have ead:=(st hb).ad
  exact⟨⟨⟨rfl,rfl,leI ead⟩,⟨rfl,rfl,fun _=>rfl⟩,⟨rfl,rfl,fun _=>rfl⟩,⟨rfl,rfl,fun _=>rfl⟩,trivial⟩,⟨aF rfl,aF rfl,trivial⟩,rfl,rfl⟩
 ·apply hexit
  have em:=en hb
  clear hexit hnext hret st en hb
  cbv
  repeat' with_reducible first | (intro hb;cbv) | refine UM ?_ ?_
  all_goals first | exact em.o1 | skip
  subst hM
  exact hk _ _ (iV.one _ _ rfl (fun ρ=>Lc) (fO.hw rfl rfl (Int.le_refl 0) em.t0 em.t1 em.eq))
def RV (A:Alg) (S:SW) (V:SV) (X:SX) (M:SM):List (Nat×bU):=(180,bV [.s (.int .u32), .v] A (JE A M)) :: ((tM9 A S V X M))
theorem Ez:COK Tryz.prog (aN (RV aA aV aS bR aZ)):=aB KB (LE)
def PV (A:Alg) (M:SM):List CV→List Blk→Option LR
 | [.s (.hs 0), .s (.hs 1)],[.vec false (.int .u32) l, .vec false (.int .u32) m]=>some ⟨[M.ok l,M.ok m,M.nz m], .t [.s (.hs 2), .s (.hs 3)],[.vec false (.int .u32) (M.dq l m), .vec false (.int .u32) (M.dr l m)]⟩
 | _,_=>none
theorem Ok {ρ:Rho} {q:Nat} {x y:Sc} :(XV.t [.s x, .s y]).den ρ=(XV.t [.s (.hs q), .s (.hs (q+1))]).den (nZ q [x,y] ρ):=by
 have e1:nZ q [x,y] ρ q=x.den ρ:=mP (i:=0) rfl
 have e2:nZ q [x,y] ρ (q+1)=y.den ρ:=mP (i:=1) rfl
 show Value.tuple #[x.den ρ,y.den ρ]= .tuple #[nZ q [x,y] ρ q,nZ q [x,y] ρ (q+1)]
 rw[e1,e2]
structure DmI (l m:List Int) (n:Nat) (i:Int) (Q r:List Int):Prop where
 i0: -1≤i
 i1:i≤(n:Int)
 len:Q.length=n / 32+1
 w:W32 Q
 dv:2 ^ (i+1).toNat ∣aM Q
 mr:Mag r
 lt:aM r < aM m*2 ^ (i+1).toNat
 eq:aM l=aM Q*aM m+aM r
structure HH (l m:List Int) (n:Nat):Prop where
 hl:Mag l
 hm:Mag m
 m0:0 < aM m
 n1:n≤32000
 nn:bP (aM m)+n=bP (aM l)
theorem HH.top {l m:List Int} {n:Nat} (h:HH l m n):aM l < aM m*2 ^ (n+1)∧aM m*2 ^ n < 2 ^ bP (aM l):=by
 obtain⟨g1,g2,g3⟩:=d7 (aM m) (by have:=h.m0;omega)
 have hnn:=h.nn
 have hl:aM l < 2 ^ bP (aM l):=by
  by_cases h0:aM l=0
  ·rw[h0];exact Nat.two_pow_pos _
  ·exact(d7 _ h0).2.2
 constructor
 ·rw[← hnn,show bP (aM m)+n=(bP (aM m) - 1)+(n+1) by omega,Nat.pow_add] at hl
  exact Nat.lt_of_lt_of_le hl (Nat.mul_le_mul_right _ g2)
 ·rw[← hnn,Nat.pow_add]
  exact Nat.mul_lt_mul_of_pos_right g3 (Nat.two_pow_pos _)
theorem HH.s {l m:List Int} {n:Nat} (h:HH l m n) {i:Nat} (hi:i≤n):Mag (bS (aM m*2 ^ i)):=by
 have h1:aM m*2 ^ i≤aM m*2 ^ n:=Nat.mul_le_mul_left _ (Nat.pow_le_pow_right (by decide) hi)
 have h2:=Nat.lt_of_le_of_lt h1 h.top.2
 refine Mag.lt h2 ?_
 have:=iE (aM l) 32000 (Nat.lt_of_lt_of_le (dU h.hl.w) (Nat.pow_le_pow_right (by decide) (by have:=h.hl.n;omega)))
 exact this
theorem HE {W e:Nat} (hW:W < 2 ^ 32) (he:e < 32) (hd:2 ^ (e+1) ∣W):W+2 ^ e < 2 ^ 32:=by
 obtain⟨d,rfl⟩:=hd
 obtain⟨t,ht⟩: ∃ t,32=(e+1)+t:=⟨31 - e,by omega⟩
 have h32:(2:Nat) ^ 32=2 ^ (e+1)*2 ^ t:=by rw[← Nat.pow_add, ← ht]
 rw[h32] at hW ⊢
 have hdt:d < 2 ^ t:=Nat.lt_of_mul_lt_mul_left (a:=2 ^ (e+1)) hW
 have h1:2 ^ (e+1)*(d+1)≤2 ^ (e+1)*2 ^ t:=Nat.mul_le_mul_left _ hdt
 rw[Nat.mul_add] at h1
 have:=Nat.two_pow_pos e
 have h2:2 ^ (e+1)=2 ^ e*2:=Nat.pow_succ ..
 omega
structure MC (A:Alg) (M:SM) (l m:List Int) (n q:Int):Prop where
 neg:A.cmp .lss n 0=true→M.dq l m=[]∧l=M.dr l m
 o1:A.cmp .lss n 0=false→A.cmp .leq 0 q=true
 o2:A.cmp .eql q q=true
 o3:A.cmp .lss n 0=false→A.cmp .leq q 1000000=true
 ok:A.cmp .lss n 0=false→HH l m n.toNat
 i0:A.cmp .lss n 0=false→DmI l m n.toNat n (A.rep q 0) l
theorem I2 {l m:List Int} (hl:Mag l) (hm:Mag m) (m0:aM m≠0) (A:Alg) (hA:A=aA) (M:SM) (hM:M=aZ) (n q:Int) (hn:n=A.bin .sub .i64 (M.bits l) (M.bits m)) (hq:q=A.bin .add .i64 (A.bin .quo .i64 n 32) 1):MC A M l m n q:=by
 subst hA hM
 have hln:=hl.n
 have hmn:=hm.n
 have bl:bP (aM l)≤32000:=iE _ _ (Nat.lt_of_lt_of_le (dU hl.w) (Nat.pow_le_pow_right (by decide) (by omega)))
 have bm:bP (aM m)≤32000:=iE _ _ (Nat.lt_of_lt_of_le (dU hm.w) (Nat.pow_le_pow_right (by decide) (by omega)))
 have en:n=(bP (aM l):Int) - bP (aM m):=by rw[hn];show aD .sub .i64 (bP (aM l):Int) (bP (aM m):Int)=_;simp only[aD,IntKind.wrap_i64];omega
 have hn0:aA.cmp .lss n 0=false→0≤n:=fun h=>by have h: ¬ n < 0:=of_decide_eq_false h;omega
 have eq:0≤n→q=((n.toNat / 32+1:Nat):Int):=fun h=>by
  rw[hq,(vF h (by omega)).1]
  show aD .add .i64 _ 1=_
  simp only[aD,IntKind.wrap_i64];omega
 have hok:0≤n→HH l m n.toNat:=fun h=>⟨hl,hm,by omega,by omega,by omega⟩
 exact {
  neg:=fun h=>by
   have h:n < 0:=of_decide_eq_true h
   have hlt:aM l < aM m:=by
    have g1:=(d7 (aM m) m0).2.1
    by_cases h0:aM l=0
    ·omega
    ·have g2:=(d7 (aM l) h0).2.2
     exact Nat.lt_of_lt_of_le g2 (Nat.le_trans (Nat.pow_le_pow_right (by decide) (by omega)) g1)
   constructor
   ·show bS (aM l / aM m)=[]
    rw[Nat.div_eq_of_lt hlt];rfl
   ·show l=bS (aM l % aM m)
    rw[Nat.mod_eq_of_lt hlt]
    exact hl.eq
  o1:=fun h=>bJ _ rfl _ _ (by rw[eq (hn0 h)];omega)
  o2:=by show(q == q)=true;simp
  o3:=fun h=>bJ _ rfl _ _ (by rw[eq (hn0 h)];omega)
  ok:=fun h=>hok (hn0 h)
  i0:=fun h=>by
   have h0:=hn0 h
   have e1:aA.rep q (0:Int)=List.replicate (n.toNat / 32+1) 0:=by show List.replicate q.toNat 0=_;rw[eq h0,Int.toNat_natCast]
   rw[e1]
   refine⟨by omega,by omega,by simp,W32.rep0 _,?_,hl,?_,?_⟩
   ·rw[kQ];exact Nat.dvd_zero _
   ·rw[show(n+1).toNat=n.toNat+1 by omega];exact(hok h0).top.1
   ·rw[kQ];simp }
structure MD (A:Alg) (M:SM) (l m:List Int) (n:Nat) (i:Int) (Q r s:List Int) (j a:Int):Prop where
 o1:M.ok m=true
 o2:M.sOK m i=true
 o3:M.ok r=true
 o4:M.ok s=true
 o5:A.cmp .geq (M.cmp r s) 0=true→M.le s r=true
 o6:A.cmp .leq 0 j=true
 o7:A.cmp .lss j (A.len Q)=true
 o8:A.cmp .geq (A.wrap .u64 (A.bin .rem .i64 i 32)) 0=true
 n1:A.cmp .geq (M.cmp r s) 0=true→DmI l m n (i - 1) (A.set Q j a) (M.sub r s)
 n0:A.cmp .geq (M.cmp r s) 0=false→DmI l m n (i - 1) Q r
 ad:A.bin .sub .i64 i 1=i - 1
 ms:(i - 1+1).toNat < (i+1).toNat
theorem apL {l m:List Int} {n:Nat} (hk:HH l m n) {i:Int} {Q r:List Int} (hI:DmI l m n i Q r) (A:Alg) (hA:A=aA) (M:SM) (hM:M=aZ) (hb:A.cmp .geq i 0=true) (s:List Int) (hs:s=M.shl m i) (j a:Int)
  (hj:j=A.bin .quo .i64 i 32) (ha:a=A.bin .or .u32 (A.get Q j 0) (A.bin .shl .u32 1 (A.wrap .u64 (A.bin .rem .i64 i 32)))):MD A M l m n i Q r s j a:=by
 subst hA hM
 have hb:i ≥ 0:=of_decide_eq_true hb
 obtain⟨i0,i1,hlen,hw,hdv,hr,hlt,heq⟩:=hI
 have hn:=hk.n1
 obtain⟨k,rfl⟩: ∃ k:Nat,i=k:=⟨i.toNat,by omega⟩
 have hk1:((k:Int)+1).toNat=k+1:=by omega
 rw[hk1] at hdv hlt
 have es:s=bS (aM m*2 ^ k):=hs
 have hsm:Mag s:=by rw[es];exact hk.s (by omega)
 have hsv:aM s=aM m*2 ^ k:=by rw[es];exact bL _
 obtain⟨q1,q2⟩:=vF (n:=(k:Int)) (by omega) (by omega)
 rw[Int.toNat_natCast] at q1 q2
 have ej:j=((k / 32:Nat):Int):=by rw[hj,q1]
 have ejn:j.toNat=k / 32:=by rw[ej];exact Int.toNat_natCast _
 have hcmp: ∀ b,aA.cmp .geq (aZ.cmp r s) 0=b→decide (aM s≤aM r)=b:=fun b h=>by
  rw[← h]
  show _=decide (sgn (aM r) (aM s) ≥ 0)
  rw[An]
 have ew:aA.wrap .u64 (aA.bin .rem .i64 (k:Int) 32)=((k % 32:Nat):Int):=by rw[q2];show IntKind.u64.wrap _=_;rw[cX];omega
 have hbit:(2:Nat) ^ (k % 32) < 2 ^ 32:=Nat.pow_lt_pow_right (by decide) (by omega)
 have eb:aA.bin .shl .u32 1 (aA.wrap .u64 (aA.bin .rem .i64 (k:Int) 32))=((2 ^ (k % 32):Nat):Int):=by
  rw[ew]
  show IntKind.u32.wrap (1*2 ^ min ((k % 32:Nat):Int).toNat 32)=_
  rw[Int.toNat_natCast,Nat.min_eq_left (by omega),Int.one_mul,show((2:Int) ^ (k % 32))=((2 ^ (k % 32):Nat):Int) by simp,IntKind.wrap_u32]
  generalize (2:Nat) ^ (k % 32)=b at *
  omega
 have hjl:k / 32 < Q.length:=by omega
 have gq:=hw.getD (k / 32)
 have hword:Q.getD (k / 32) 0=((aM Q / 2 ^ (32*(k / 32)) % 2 ^ 32:Nat):Int):=jL hw hjl
 obtain⟨c,hc⟩:=hdv
 have hkk:k+1=32*(k / 32)+(k % 32+1):=by omega
 have hdiv:aM Q / 2 ^ (32*(k / 32))=2 ^ (k % 32+1)*c:=by
  rw[hc,hkk,Nat.pow_add,Nat.mul_assoc]
  exact Nat.mul_div_cancel_left _ (Nat.two_pow_pos _)
 have hdw:2 ^ (k % 32+1) ∣(aM Q / 2 ^ (32*(k / 32)) % 2 ^ 32):=by
  rw[hdiv]
  exact(Nat.dvd_mod_iff (Nat.pow_dvd_pow 2 (by omega:k % 32+1≤32))).2 (Nat.dvd_mul_right _ _)
 obtain⟨W,hW⟩: ∃ W:Nat,W=aM Q / 2 ^ (32*(k / 32)) % 2 ^ 32:=⟨_,rfl⟩
 rw[← hW] at hword hdw
 have hWlt:W < 2 ^ 32:=by rw[hW];exact Nat.mod_lt _ (by decide)
 have hsum:W+2 ^ (k % 32) < 2 ^ 32:=by
  exact HE hWlt (by omega) hdw
 have ea:a=((W+2 ^ (k % 32):Nat):Int):=by
  rw[ha,eb]
  show aD .or .u32 (Q.getD j.toNat 0) _=_
  rw[ejn,hword,yZ _ _ (by omega) (by omega) (by omega) (by omega),Int.toNat_natCast,Int.toNat_natCast,Nat.or_comm,H1 _ _ (k % 32+1) (Nat.pow_lt_pow_right (by decide) (by omega)) hdw,Nat.add_comm]
 have hset:=nO Q (k / 32) a hjl
 rw[hword,ea,Int.toNat_natCast,Int.toNat_natCast,Nat.mul_add, ← Nat.pow_add,show 32*(k / 32)+k % 32=k by omega] at hset
 have hkm:((k:Int) - 1+1).toNat=k:=by omega
 exact {
  o1:=aX.2 hk.hm
  o2:=by show(decide (0≤(k:Int))&&decide ((k:Int)≤32000))=true;simp;omega
  o3:=aX.2 hr
  o4:=aX.2 hsm
  o5:=fun h=>by
   have h:=of_decide_eq_true (hcmp _ h)
   exact decide_eq_true (show aM s≤aM r from h)
  o6:=bJ _ rfl _ _ (by omega)
  o7:=bH _ rfl _ _ (by show j < (Q.length:Int);omega)
  o8:=by rw[ew];show decide (((k % 32:Nat):Int) ≥ 0)=true;exact decide_eq_true (by omega)
  n1:=fun h=>by
   have h:=of_decide_eq_true (hcmp _ h)
   have fE:aZ.sub r s=bS (aM r - aM s):=rfl
   have hv:aM (bS (aM r - aM s))=aM r - aM s:=bL _
   rw[fE]
   have eset:aA.set Q j a=Q.set (k / 32) ((W+2 ^ (k % 32):Nat):Int):=by show Q.set j.toNat a=_;rw[ejn,ea]
   rw[eset]
   have hval:aM (Q.set (k / 32) ((W+2 ^ (k % 32):Nat):Int))=aM Q+2 ^ k:=by omega
   refine⟨by omega,by omega,by rw[List.length_set];exact hlen,hw.set _ (by omega),?_,?_,?_,?_⟩
   ·rw[hkm,hval,hc,Nat.pow_succ,Nat.mul_assoc]
    exact Nat.dvd_add (Nat.dvd_mul_right _ _) (Nat.dvd_refl _)
   ·exact Mag.lt (k:=32000) (Nat.lt_of_le_of_lt (Nat.sub_le _ _) (Nat.lt_of_lt_of_le (dU hr.w) (Nat.pow_le_pow_right (by decide) (by have:=hr.n;omega)))) (Nat.le_refl _)
   ·rw[hv,hkm]
    rw[Nat.pow_succ] at hlt
    rw[hsv] at h ⊢
    have:=Nat.mul_assoc (aM m) (2 ^ k) 2
    omega
   ·rw[hv,hval,Nat.add_mul,heq]
    rw[hsv] at h ⊢
    have:=Nat.mul_comm (2 ^ k) (aM m)
    omega
  n0:=fun h=>by
   have h:=of_decide_eq_false (hcmp _ h)
   refine⟨by omega,by omega,hlen,hw,?_,hr,?_,heq⟩
   ·rw[hkm,hc,Nat.pow_succ,Nat.mul_assoc]
    exact Nat.dvd_mul_right _ _
   ·rw[hkm, ← hsv];omega
  ad:=by show aD .sub .i64 (k:Int) 1=_;simp only[aD,IntKind.wrap_i64];omega
  ms:=by omega }
theorem M7 {l m:List Int} {n:Nat} (hk:HH l m n) {i:Int} {Q r:List Int} (hI:DmI l m n i Q r) (A:Alg) (hA:A=aA) (X:SX) (hX:X=bR) (M:SM) (hM:M=aZ) (hb:A.cmp .geq i 0=false):sB A X Q (M.dq l m)∧r=M.dr l m:=by
 subst hM
 obtain⟨i0,i1,hlen,hw,hdv,hr,hlt,heq⟩:=hI
 have hn:=hk.n1
 have hb: ¬ i ≥ 0:=by subst hA;exact of_decide_eq_false hb
 have hi:(i+1).toNat=0:=by omega
 rw[hi] at hlt
 have hlt:aM r < aM m:=by simpa using hlt
 have hm0:=hk.m0
 have hq:aM l / aM m=aM Q:=by
  rw[heq,Nat.mul_comm,Nat.mul_add_div hm0,Nat.div_eq_of_lt hlt,Nat.add_zero]
 have hr':aM l % aM m=aM r:=by
  rw[heq,Nat.mul_comm,Nat.mul_add_mod,Nat.mod_eq_of_lt hlt]
 constructor
 ·have:aZ.dq l m=bS (aM l / aM m):=rfl
  rw[this]
  exact qY hw (by omega) hq.symm A hA X hX
 ·show r=bS (aM l % aM m)
  rw[hr'];exact hr.eq
theorem N4:aJ Tryz.prog 146 (bV [.s (.int .u32), .s (.int .u32)] aA (PV aA aZ)):=by
 refine dM (un:=⟨false,some [0,1,4,5,6,7,8,9,10,17,26,35]⟩) tok Ez aL (fn:=Tryz.f146) ?_
 intro w Wr args bs r hg ho hWr A L k hA hL hk
 obtain⟨M,hM⟩:=exE aZ
 obtain⟨S,hS⟩:=exE aV
 obtain⟨V,hV⟩:=exE aS
 obtain⟨X,hX⟩:=exE bR
 try rw[← hM]
 try rw[← hS]
 try rw[← hV]
 try rw[← hX]
 try rw[← hA]
 unfold PV at hg
 split at hg <;> cases hg
 rename_i l m
 have hl:Mag l:=aX.1 ((aG ho).1)
 have hm:Mag m:=aX.1 ((aG (aG ho).2).1)
 have m0:aM m≠0:=of_decide_eq_true (p:=aM m≠0) ((aG (aG (aG ho).2).2).1)
 clear ho
 have okl:M.ok l=true:=by rw[hM];exact aX.2 hl
 have okm:M.ok m=true:=by rw[hM];exact aX.2 hm
 have hd:=I2 hl hm m0 A hA M hM _ _ rfl rfl
 cbv
 repeat' with_reducible first | (intro hb;cbv) | refine UM ?_ ?_
 all_goals first | exact okl | exact okm | exact hd.o1 hb | exact hd.o2 | exact hd.o3 hb | skip
 ·have hz:=hd.neg hb
  subst hM
  exact hk _ _ (iV.two .nils (.hs 0) _ _ rfl (fun ρ=>Ok) rfl rfl (fO.nils hz.1) (fO.hs rfl hz.2))
 have i0:=hd.i0 hb
 have dk:=hd.ok hb
 clear hd okl okm
 refine hL _ _ _ (gM (un:=⟨false,some [1,4,5,7,8,9,10,26,35]⟩) tok Ez aL 2 (fun i hi=>by have:=hWr i hi;simp at this;exact this) (fun p:Int×List Int×List Int=>⟨[(9,⟨[], .c (.s (.int .i64 p.1))⟩),(8,⟨[], .c (.s (.hs 3))⟩),(7,⟨[], .c (.s (.hs 2))⟩),(1,⟨[], .c (.s (.hs 1))⟩)],[(1, .vec false (.int .u32) m),(2, .vec true (.int .u32) p.2.1),(3, .vec false (.int .u32) p.2.2)],4⟩)
  (fun p=>DmI l m (A.bin .sub .i64 (M.bits l) (M.bits m)).toNat p.1 p.2.1 p.2.2) (fun p=>(p.1+1).toNat) (_,_,l) i0 [(3, .hs 0)] ?_ (fun _=>Nat.le_of_ble_eq_true rfl) ?_)
 ·exact⟨⟨⟨rfl,rfl,fun _=>rfl⟩,⟨rfl,rfl,fun _=>rfl⟩,⟨rfl,rfl,fun _=>rfl⟩,⟨rfl,rfl,fun _=>rfl⟩,trivial⟩,⟨⟨rfl,rfl,rfl,rfl,fun h=>h⟩,⟨rfl,rfl,rfl,rfl,fun h=>h⟩,⟨rfl,rfl,rfl,rfl,fun h=>h⟩,trivial⟩,rfl,rfl,rfl,rfl⟩
 clear i0 hb
 rintro⟨i,Q,r⟩ hI A2 L2 k2 hA2 hL2 hnext hexit hret
 have st:=fun hb=>apL dk hI A2 hA2 M hM hb _ rfl _ _ rfl rfl
 have en:=fun hb=>M7 dk hI A hA X hX M hM (by rw[hA, ← hA2];exact hb)
 clear hI
 rw[← hA2, ← hS, ← hV, ← hX, ← hM]
 cbv
 repeat' with_reducible first | (intro hb;cbv) | refine UM ?_ ?_
 all_goals first | exact(st (by assumption)).o1 | exact(st (by assumption)).o2 | exact(st (by assumption)).o3 | exact(st (by assumption)).o4 | exact(st (by assumption)).o5 (by assumption) | exact(st (by assumption)).o6 | exact(st (by assumption)).o7 | exact(st (by assumption)).o8 | skip
 ·rename_i hb0
  refine hnext _ (i - 1,_,_) [(3, .hs 5)] ((st hb0).n1 hb) (st hb0).ms ?_
  have ead:=(st hb0).ad
  exact⟨⟨⟨rfl,rfl,leI ead⟩,⟨rfl,rfl,fun _=>rfl⟩,⟨rfl,rfl,fun _=>rfl⟩,⟨rfl,rfl,fun _=>rfl⟩,trivial⟩,⟨⟨rfl,rfl,rfl,rfl,fun h=>h⟩,⟨rfl,rfl,rfl,rfl,fun h=>h⟩,⟨rfl,rfl,rfl,rfl,fun h=>h⟩,trivial⟩,rfl,rfl,rfl,rfl⟩
 ·rename_i hb0
  refine hnext _ (i - 1,_,_) [] ((st hb0).n0 hb) (st hb0).ms ?_
  have ead:=(st hb0).ad
  exact⟨⟨⟨rfl,rfl,leI ead⟩,⟨rfl,rfl,fun _=>rfl⟩,⟨rfl,rfl,fun _=>rfl⟩,⟨rfl,rfl,fun _=>rfl⟩,trivial⟩,⟨⟨rfl,rfl,rfl,rfl,fun h=>h⟩,⟨rfl,rfl,rfl,rfl,fun h=>h⟩,⟨rfl,rfl,rfl,rfl,fun h=>h⟩,trivial⟩,rfl,rfl,rfl,rfl⟩
 ·apply hexit
  obtain⟨em,er⟩:=en hb
  clear hexit hnext hret st en hb
  cbv
  repeat' with_reducible first | (intro hb;cbv) | refine UM ?_ ?_
  all_goals first | exact em.o1 | skip
  subst hM
  exact hk _ _ (iV.two _ _ _ _ rfl (fun ρ=>Ok) rfl rfl (fO.hw rfl rfl (Int.le_refl 0) em.t0 em.t1 em.eq) (fO.hs rfl er))
def RX (A:Alg) (S:SW) (V:SV) (X:SX) (M:SM):List (Nat×bU):=(146,bV [.s (.int .u32), .s (.int .u32)] A (PV A M)) :: ((RV A S V X M))
theorem EA:COK Tryz.prog (aN (RX aA aV aS bR aZ)):=aB N4 (Ez)
def FF (A:Alg) (M:SM):List CV→List Blk→Option LR
 | [.s (.hs 0), .s (.hs 1)],[.vec false (.int .u32) l, .vec false (.int .u32) m]=>some ⟨[M.ok l,M.ok m], .c (.s (.hs 2)),[.vec false (.int .u32) (M.gcd l m)]⟩
 | _,_=>none
structure GdI (l m p q:List Int):Prop where
 hp:Mag p
 hq:Mag q
 eq:Nat.gcd (aM p) (aM q)=Nat.gcd (aM l) (aM m)
theorem Mag.nz {l:List Int} (h:Mag l):aM l=0↔l.length=0:=by rw[h.len];exact qX.symm
theorem Mag.small {l:List Int} (h:Mag l):aM l < 2 ^ 32000:=Nat.lt_of_lt_of_le (dU h.w) (Nat.pow_le_pow_right (by decide) (by have:=h.n;omega))
structure ME (A:Alg) (M:SM) (l m p q:List Int):Prop where
 o1:M.ok p=true
 o2:M.ok q=true
 o3:M.nz q=true
 nx:GdI l m q (M.dr p q)
 ms:aM (M.dr p q) < aM q
theorem JT {l m p q:List Int} (hI:GdI l m p q) (A:Alg) (hA:A=aA) (M:SM) (hM:M=aZ) (hb:A.cmp .gtr (A.len q) 0=true):ME A M l m p q:=by
 subst hA hM
 have hb:(q.length:Int) > 0:=of_decide_eq_true hb
 obtain⟨hp,hq,heq⟩:=hI
 have hq0:aM q≠0:=fun h=>by have:=hq.nz.1 h;omega
 have hlt:=Nat.mod_lt (aM p) (Nat.pos_of_ne_zero hq0)
 have e:aZ.dr p q=bS (aM p % aM q):=rfl
 exact {
  o1:=aX.2 hp
  o2:=aX.2 hq
  o3:=decide_eq_true hq0
  nx:=by
   rw[e]
   refine⟨hq,Mag.lt (Nat.lt_trans hlt hq.small) (Nat.le_refl _),?_⟩
   rw[bL, ← heq,Nat.gcd_comm (aM q), ← Nat.gcd_rec,Nat.gcd_comm]
  ms:=by rw[e,bL];exact hlt }
theorem Nb {l m p q:List Int} (hI:GdI l m p q) (A:Alg) (hA:A=aA) (M:SM) (hM:M=aZ) (hb:A.cmp .gtr (A.len q) 0=false):p=M.gcd l m:=by
 subst hA hM
 have hb: ¬ (q.length:Int) > 0:=of_decide_eq_false hb
 obtain⟨hp,hq,heq⟩:=hI
 have hq0:aM q=0:=hq.nz.2 (by omega)
 rw[hq0,Nat.gcd_zero_right] at heq
 show p=bS (Nat.gcd (aM l) (aM m))
 rw[← heq];exact hp.eq
theorem DL:aJ Tryz.prog 145 (bV [.s (.int .u32), .s (.int .u32)] aA (FF aA aZ)):=by
 refine dM (un:=⟨false,some [0,1,4,5,6,7,8,13]⟩) tok EA aL (fn:=Tryz.f145) ?_
 intro w Wr args bs r hg ho hWr A L k hA hL hk
 obtain⟨M,hM⟩:=exE aZ
 obtain⟨S,hS⟩:=exE aV
 obtain⟨V,hV⟩:=exE aS
 obtain⟨X,hX⟩:=exE bR
 try rw[← hM]
 try rw[← hS]
 try rw[← hV]
 try rw[← hX]
 try rw[← hA]
 unfold FF at hg
 split at hg <;> cases hg
 rename_i l m
 have hl:Mag l:=aX.1 ((aG ho).1)
 have hm:Mag m:=aX.1 ((aG (aG ho).2).1)
 clear ho
 have i0:GdI l m l m:=⟨hl,hm,rfl⟩
 cbv
 refine hL _ _ _ (gM (un:=⟨false,some [4,5,6,7,8,13]⟩) tok EA aL 2 (fun i hi=>by have:=hWr i hi;simp at this;exact this) (fun p:List Int×List Int=>⟨[(5,⟨[], .c (.s (.hs 2))⟩),(6,⟨[], .c (.s (.hs 3))⟩)],[(2, .vec false (.int .u32) p.1),(3, .vec false (.int .u32) p.2)],4⟩)
  (fun p=>GdI l m p.1 p.2) (fun p=>aM p.2) (l,m) i0 [(2, .hs 0),(3, .hs 1)] ?_ (fun _=>Nat.le_of_ble_eq_true rfl) ?_)
 ·exact⟨⟨⟨rfl,rfl,fun _=>rfl⟩,⟨rfl,rfl,fun _=>rfl⟩,trivial⟩,⟨⟨rfl,rfl,rfl,rfl,fun h=>h⟩,⟨rfl,rfl,rfl,rfl,fun h=>h⟩,trivial⟩,rfl,rfl,rfl,rfl⟩
 clear i0
 rintro⟨p,q⟩ hI A2 L2 k2 hA2 hL2 hnext hexit hret
 have st:=fun hb=>JT hI A2 hA2 M hM hb
 have en:=fun hb=>Nb hI A hA M hM (by rw[hA, ← hA2];exact hb)
 clear hI
 rw[← hA2, ← hS, ← hV, ← hX, ← hM]
 cbv
 repeat' with_reducible first | (intro hb;cbv) | refine UM ?_ ?_
 all_goals first | exact(st (by assumption)).o1 | exact(st (by assumption)).o2 | exact(st (by assumption)).o3 | skip
 ·refine hnext _ (_,_) [(2, .hs 3),(3, .hs 5)] (st hb).nx (st hb).ms ?_
  exact⟨⟨⟨rfl,rfl,fun _=>rfl⟩,⟨rfl,rfl,fun _=>rfl⟩,trivial⟩,⟨⟨rfl,rfl,rfl,rfl,fun h=>h⟩,⟨rfl,rfl,rfl,rfl,fun h=>h⟩,trivial⟩,rfl,rfl,rfl,rfl⟩
 ·apply hexit
  have em:=en hb
  clear hexit hnext hret st en hb
  cbv
  subst hM
  exact hk _ _ (iV.one _ _ rfl (fun ρ=>Lc) (fO.hs rfl em))
def RY (A:Alg) (S:SW) (V:SV) (X:SX) (M:SM):List (Nat×bU):=(145,bV [.s (.int .u32), .s (.int .u32)] A (FF A M)) :: ((RX A S V X M))
theorem agP:COK Tryz.prog (aN (RY aA aV aS bR aZ)):=aB DL (EA)
theorem kV {s:Bool} {n:Nat} {z:Int} (h:sgd s n=z):bR.wV s (bS n)=pick (jB z) z∧bR.wOK (bS n)=jB z:=by
 have ht:tlen (bS n)=iG n:=by rw[pS (pM n),bL]
 have hf:jB z=decide (n < 2 ^ 1024):=by unfold jB;rw[← h,oN]
 have hv:iU (bS n)=n:=by rw[lD,bL]
 by_cases h1:n < 2 ^ 1024
 ·have h2:=v8.2 h1
  rw[hf,decide_eq_true h1]
  constructor
  ·show(if tlen (bS n)≤32 then tld s (bX (iU (bS n))) else _)=ofZ z
   rw[ht,if_pos h2,hv,LO s n h1,h]
  ·show decide (tlen (bS n)≤32)=true
   rw[ht];exact decide_eq_true h2
 ·have h2: ¬ iG n≤32:=fun h=>h1 (v8.1 h)
  rw[hf,decide_eq_false h1]
  constructor
  ·show(if tlen (bS n)≤32 then tld s (bX (iU (bS n))) else _)=_
   rw[ht,if_neg h2];rfl
  ·show decide (tlen (bS n)≤32)=false
   rw[ht];exact decide_eq_false h2
theorem Mag.ofW (w:Wd):Mag (bS w.d.n):=Mag.lt w.d.lt (by decide)
structure MFs (A:Alg) (X:SX) (M:SM):Prop where
 of: ∀ w,M.ok (M.of w)=true
 gz: ∀ w,A.cmp .gtr (A.len (M.of w)) 0=decide (w.d.n≠0)
 ez: ∀ w,A.cmp .eql (A.len (M.of w)) 0=decide (w.d.n=0)
 ok1: ∀ l,M.ok l=true→A.cmp .lss (A.len l) 1000000=true
 ok2: ∀ l,M.ok l=true→X.rng l=true
 add: ∀ x y,M.ok (M.add (M.of x) (M.of y))=true
 sum: ∀ s x t y,M.ok (M.sumM s (M.of x) t (M.of y))=true
 mul: ∀ x y,M.ok (M.mul (M.of x) (M.of y))=true
 gcd: ∀ x y,M.ok (M.gcd (M.of x) (M.of y))=true
 dq: ∀ x y,M.ok (M.dq (M.of x) (M.of y))=true
 dr: ∀ x y,M.ok (M.dr (M.of x) (M.of y))=true
 shl: ∀ x n,M.ok (M.shl (M.of x) (A.mx 0 (A.mn n 1024)))=true
 sh: ∀ x n,M.sOK (M.of x) (A.mx 0 (A.mn n 1024))=true
theorem mfs (A:Alg) (hA:A=aA) (X:SX) (hX:X=bR) (M:SM) (hM:M=aZ):MFs A X M:=by
 subst hA hX hM
 have hv: ∀ w:Wd,aM (bS w.d.n)=w.d.n:=fun w=>bL _
 have hl: ∀ w:Wd,(bS w.d.n).length=0↔w.d.n=0:=fun w=>by rw[pN];exact qX
 have hlt: ∀ w:Wd,w.d.n < 2 ^ 1024:=fun w=>w.d.lt
 have hmx: ∀ n,0≤aA.mx 0 (aA.mn n 1024)∧aA.mx 0 (aA.mn n 1024)≤1024:=fun n=>by
  show 0≤(if(if(1024:Int) < n then(1024:Int) else n) > 0 then(if(1024:Int) < n then(1024:Int) else n) else 0)∧(if(if(1024:Int) < n then(1024:Int) else n) > 0 then(if(1024:Int) < n then(1024:Int) else n) else 0)≤1024
  omega
 exact {
  of:=fun w=>aX.2 (Mag.ofW w)
  gz:=fun w=>by
   show decide (((bS w.d.n).length:Int) > 0)=_
   rw[decide_eq_decide]
   have:=hl w
   omega
  ez:=fun w=>by
   show(((bS w.d.n).length:Int) == 0)=_
   have:=hl w
   by_cases h:w.d.n=0
   ·rw[decide_eq_true h,beq_iff_eq];omega
   ·rw[decide_eq_false h,beq_eq_false_iff_ne];omega
  ok1:=fun l h=>bH _ rfl _ _ (by have:=(aX.1 h).n;show(l.length:Int) < 1000000;omega)
  ok2:=fun l h=>Ed.2 (aX.1 h).w
  add:=fun x y=>aX.2 (by
   show Mag (bS (aM (bS x.d.n)+aM (bS y.d.n)))
   rw[hv,hv]
   exact Mag.lt (k:=1025) (by have:=hlt x;have:=hlt y;rw[Nat.pow_succ];omega) (by decide))
  sum:=fun s x t y=>aX.2 (by
   have h0:=hlt x
   have h1:=hlt y
   show Mag (if s=t then bS (aM (bS x.d.n)+aM (bS y.d.n)) else if aM (bS y.d.n)≤aM (bS x.d.n) then bS (aM (bS x.d.n) - aM (bS y.d.n)) else bS (aM (bS y.d.n) - aM (bS x.d.n)))
   rw[hv,hv]
   split
   ·exact Mag.lt (k:=1025) (by rw[Nat.pow_succ];omega) (by decide)
   ·split
    ·exact Mag.lt (k:=1024) (by omega) (by decide)
    ·exact Mag.lt (k:=1024) (by omega) (by decide))
  mul:=fun x y=>aX.2 (by
   show Mag (bS (aM (bS x.d.n)*aM (bS y.d.n)))
   rw[hv,hv]
   refine Mag.lt (k:=1024+1024) ?_ (by decide)
   rw[Nat.pow_add]
   exact Nat.lt_of_le_of_lt (Nat.mul_le_mul_left _ (Nat.le_of_lt (hlt y))) (Nat.mul_lt_mul_of_pos_right (hlt x) (Nat.two_pow_pos _)))
  gcd:=fun x y=>aX.2 (by
   show Mag (bS (Nat.gcd (aM (bS x.d.n)) (aM (bS y.d.n))))
   rw[hv,hv]
   exact Mag.lt (lR (hlt x) (hlt y)) (by decide))
  dq:=fun x y=>aX.2 (by
   show Mag (bS (aM (bS x.d.n) / aM (bS y.d.n)))
   rw[hv,hv]
   exact Mag.lt (Nat.lt_of_le_of_lt (Nat.div_le_self _ _) (hlt x)) (by decide))
  dr:=fun x y=>aX.2 (by
   show Mag (bS (aM (bS x.d.n) % aM (bS y.d.n)))
   rw[hv,hv]
   exact Mag.lt (Nat.lt_of_le_of_lt (Nat.mod_le _ _) (hlt x)) (by decide))
  shl:=fun x n=>aX.2 (by
   show Mag (bS (aM (bS x.d.n)*2 ^ (aA.mx 0 (aA.mn n 1024)).toNat))
   rw[hv]
   refine Mag.lt (k:=1024+1024) ?_ (by decide)
   rw[Nat.pow_add]
   refine Nat.lt_of_le_of_lt (Nat.mul_le_mul_left _ (Nat.pow_le_pow_right (by decide) ?_)) (Nat.mul_lt_mul_of_pos_right (hlt x) (Nat.two_pow_pos _))
   have:=(hmx n).2
   have:=(hmx n).1
   omega)
  sh:=fun x n=>by
   have:=hmx n
   show(decide (0≤aA.mx 0 (aA.mn n 1024))&&decide (aA.mx 0 (aA.mn n 1024)≤32000))=true
   rw[decide_eq_true this.1,decide_eq_true (by omega)];rfl }
theorem Lb {ρ:Rho} {q:Nat} {x:Sc} {a c:Bool} (h:a=c):(XV.t [.s (.bool a), .s x]).den ρ=(XV.t [.s (.bool c), .s (.hs q)]).den (nZ q [x] ρ):=by
 subst h
 have e1:nZ q [x] ρ q=x.den ρ:=mP (i:=0) rfl
 show Value.tuple #[.bool a,x.den ρ]= .tuple #[.bool a,nZ q [x] ρ q]
 rw[e1]
theorem u6:aJ Tryz.prog 98 (aC [.v] aA (mT aV)):=by
 refine aH (un:=⟨false,some [1,2]⟩) tok agP aL (fn:=Tryz.f98) ?_
 intro w Wr args bs r hg ho hWr A L k hA hL hk
 obtain⟨M,hM⟩:=exE aZ
 obtain⟨S,hS⟩:=exE aV
 obtain⟨V,hV⟩:=exE aS
 obtain⟨X,hX⟩:=exE bR
 try rw[← hM]
 try rw[← hS]
 try rw[← hV]
 try rw[← hX]
 try rw[← hA]
 unfold mT at hg
 split at hg <;> cases hg
 rename_i w
 have mf:=mfs A hA X hX M hM
 cbv
 repeat' with_reducible first | (intro hb;cbv) | refine UM ?_ ?_
 ·refine hk _ _ (bE.pure rfl fun ρ=>?_)
  refine yQ ?_
  have h:=mf.gz w
  show A.cmp .gtr (A.len (M.of w)) 0=(w.neg&&decide (w.d.n≠0))
  rw[h,hb];rfl
 ·refine hk _ _ (bE.pure rfl fun ρ=>?_)
  refine BH ?_
  show false=(w.neg&&decide (w.d.n≠0))
  rw[hb];rfl
def RZ (A:Alg) (S:SW) (V:SV) (X:SX) (M:SM):List (Nat×bU):=(98,aC [.v] A (mT S)) :: ((RY A S V X M))
theorem wM:COK Tryz.prog (aN (RZ aA aV aS bR aZ)):=aB u6 (agP)
theorem HX:aJ Tryz.prog 148 (aC [.v] aA (gIs aV)):=by
 refine aH (un:=⟨false,some [1,2]⟩) tok wM aL (fn:=Tryz.f148) ?_
 intro w Wr args bs r hg ho hWr A L k hA hL hk
 obtain⟨M,hM⟩:=exE aZ
 obtain⟨S,hS⟩:=exE aV
 obtain⟨V,hV⟩:=exE aS
 obtain⟨X,hX⟩:=exE bR
 try rw[← hM]
 try rw[← hS]
 try rw[← hV]
 try rw[← hX]
 try rw[← hA]
 unfold gIs at hg
 split at hg <;> cases hg
 rename_i w
 have mf:=mfs A hA X hX M hM
 cbv
 repeat' with_reducible first | (intro hb;cbv) | refine UM ?_ ?_
 ·refine hk _ _ (bE.pure rfl fun ρ=>?_)
  refine BH ?_
  have hb:(!w.neg)=true:=by rw[hA] at hb;exact hb
  show true=(!w.neg||decide (w.d.n≠0))
  rw[hb];rfl
 ·refine hk _ _ (bE.pure rfl fun ρ=>?_)
  refine yQ ?_
  have h:=mf.gz w
  have hb:(!w.neg)=false:=by rw[hA] at hb;exact hb
  show A.cmp .gtr (A.len (M.of w)) 0=(!w.neg||decide (w.d.n≠0))
  rw[h,hb];rfl
theorem rB:aJ Tryz.prog 105 (aC [.v] aA (vY aV)):=by
 refine aH (un:=⟨false,some [1,2]⟩) tok wM aL (fn:=Tryz.f105) ?_
 intro w Wr args bs r hg ho hWr A L k hA hL hk
 obtain⟨M,hM⟩:=exE aZ
 obtain⟨S,hS⟩:=exE aV
 obtain⟨V,hV⟩:=exE aS
 obtain⟨X,hX⟩:=exE bR
 try rw[← hM]
 try rw[← hS]
 try rw[← hV]
 try rw[← hX]
 try rw[← hA]
 unfold vY at hg
 split at hg <;> cases hg
 rename_i w
 have mf:=mfs A hA X hX M hM
 cbv
 repeat' with_reducible first | (intro hb;cbv) | refine UM ?_ ?_
 all_goals first | exact mf.of _ | skip
 refine hk _ _ (bE.pure rfl fun ρ=>?_)
 refine B2 ?_
 subst hM
 show((bP (aM (bS w.d.n)):Nat):Int)=((bP w.d.n:Nat):Int)
 rw[bL]
structure Sk (A:Alg) (S:SW) (M:SM) (x y:Wd):Prop where
 c1:A.ite (S.below x) (A.not (S.below y)) false=true→ -1=S.cmp x y
 c2:A.ite (A.not (S.below x)) (S.below y) false=true→1=S.cmp x y
 c3:A.ite (S.below x) (A.not (S.below y)) false=false→S.below x=true→M.cmp (M.of y) (M.of x)=S.cmp x y
 c4:A.ite (A.not (S.below x)) (S.below y) false=false→S.below x=false→M.cmp (M.of x) (M.of y)=S.cmp x y
theorem PH (x y:Wd) (A:Alg) (hA:A=aA) (S:SW) (hS:S=aV) (M:SM) (hM:M=aZ):Sk A S M x y:=by
 subst hA hS hM
 have hx:=wX x
 have hy:=wX y
 have ax:=bF x
 have ay:=bF y
 have ht: ∀ c b,aA.ite c b false=true→c=true∧b=true:=fun c b h=>by
  have h:(if c=true then b else false)=true:=h
  cases c <;> simp_all
 have hf: ∀ c b,aA.ite c b false=false→c=true→b=false:=fun c b h hc=>by
  have h:(if c=true then b else false)=false:=h
  subst hc;simpa using h
 have hn: ∀ c b,aA.not c=b→c= !b:=fun c b h=>by
  have h:(!c)=b:=h
  rw[← h];simp
 have e: ∀ u v:Wd,aZ.cmp (aZ.of u) (aZ.of v)=sgn u.d.n v.d.n:=fun u v=>by
  show sgn (aM (bS u.d.n):Nat) (aM (bS v.d.n):Nat)=_
  rw[bL,bL]
 refine⟨fun h=>?_,fun h=>?_,fun h0 h1=>?_,fun h0 h1=>?_⟩
 ·obtain⟨h1,h2⟩:=ht _ _ h
  have h2:=hn _ _ h2
  have h1:aU x=true:=h1
  have h2:aU y=false:=h2
  rw[hx,decide_eq_true_eq] at h1
  rw[hy,decide_eq_false_iff_not] at h2
  show -1=sgn (aK x) (aK y)
  unfold sgn;rw[if_pos (by omega)]
 ·obtain⟨h1,h2⟩:=ht _ _ h
  have h1:=hn _ _ h1
  have h1:aU x=false:=h1
  have h2:aU y=true:=h2
  rw[hx,decide_eq_false_iff_not] at h1
  rw[hy,decide_eq_true_eq] at h2
  show 1=sgn (aK x) (aK y)
  unfold sgn;rw[if_neg (by omega),if_pos (by omega)]
 ·have h2:=hn _ _ (hf _ _ h0 h1)
  have h1:aU x=true:=h1
  have h2:aU y=true:=h2
  rw[hx,decide_eq_true_eq] at h1
  rw[hy,decide_eq_true_eq] at h2
  rw[e]
  show sgn (y.d.n:Int) (x.d.n:Int)=sgn (aK x) (aK y)
  rw[← ax, ← ay]
  unfold sgn
  have e1:((aK y).natAbs:Int) < ((aK x).natAbs:Int)↔aK x < aK y:=by omega
  have e2:((aK x).natAbs:Int) < ((aK y).natAbs:Int)↔aK y < aK x:=by omega
  simp only[e1,e2]
 ·have h2:=hf _ _ h0 (by
   have h1:aV.below x=false:=h1
   show(!aV.below x)=true
   rw[h1];rfl)
  have h1:aU x=false:=h1
  have h2:aU y=false:=h2
  rw[hx,decide_eq_false_iff_not] at h1
  rw[hy,decide_eq_false_iff_not] at h2
  rw[e]
  show sgn (x.d.n:Int) (y.d.n:Int)=sgn (aK x) (aK y)
  rw[← ax, ← ay]
  have e1:((aK x).natAbs:Int)=aK x:=by omega
  have e2:((aK y).natAbs:Int)=aK y:=by omega
  rw[e1,e2]
theorem z7:aJ Tryz.prog 104 (aC [.v, .v] aA (yB aV)):=by
 refine aH (un:=⟨false,some [2,3,4,5,6,11,17,23]⟩) tok wM aL (fn:=Tryz.f104) ?_
 intro w Wr args bs r hg ho hWr A L k hA hL hk
 obtain⟨M,hM⟩:=exE aZ
 obtain⟨S,hS⟩:=exE aV
 obtain⟨V,hV⟩:=exE aS
 obtain⟨X,hX⟩:=exE bR
 try rw[← hM]
 try rw[← hS]
 try rw[← hV]
 try rw[← hX]
 try rw[← hA]
 unfold yB at hg
 split at hg <;> cases hg
 rename_i x y
 have mf:=mfs A hA X hX M hM
 have cf:=PH x y A hA S hS M hM
 cbv
 repeat' with_reducible first | (intro hb;cbv) | refine UM ?_ ?_
 all_goals first | exact mf.of _ | skip
 ·refine hk _ _ (bE.pure rfl fun ρ=>?_)
  subst hS
  exact Ak (cf.c1 hb)
 ·rename_i hb0
  refine hk _ _ (bE.pure rfl fun ρ=>?_)
  subst hS
  exact Ak (cf.c2 hb)
 ·rename_i hb0 hb1
  refine hk _ _ (bE.pure rfl fun ρ=>?_)
  subst hS
  exact B2 (cf.c3 hb0 hb)
 ·rename_i hb0 hb1
  refine hk _ _ (bE.pure rfl fun ρ=>?_)
  subst hS
  exact B2 (cf.c4 hb1 hb)
def FG (M:SM):List CV→List Blk→Option LR
 | [.s (.bool x), .s (.hs 0), .s (.bool y), .s (.hs 1)],[.vec false (.int .u32) l, .vec false (.int .u32) m]=>some ⟨[M.ok l,M.ok m], .t [.s (.bool (M.sumS x l y m)), .s (.hs 2)],[.vec false (.int .u32) (M.sumM x l y m)]⟩
 | _,_=>none
structure Sq (A:Alg) (M:SM) (x:Bool) (l:List Int) (y:Bool) (m:List Int):Prop where
 e1:A.beq x y=true→x=M.sumS x l y m∧M.add l m=M.sumM x l y m
 e2:A.beq x y=false→A.cmp .geq (M.cmp l m) 0=true→x=M.sumS x l y m∧M.sub l m=M.sumM x l y m∧M.le m l=true
 e3:A.beq x y=false→A.cmp .geq (M.cmp l m) 0=false→y=M.sumS x l y m∧M.sub m l=M.sumM x l y m∧M.le l m=true
theorem QO (x:Bool) (l:List Int) (y:Bool) (m:List Int) (A:Alg) (hA:A=aA) (M:SM) (hM:M=aZ):Sq A M x l y m:=by
 subst hA hM
 have hq: ∀ b,aA.beq x y=b→decide (x=y)=b:=fun b h=>by
  have h:(x == y)=b:=h
  rw[← h];cases x <;> cases y <;> rfl
 have hc: ∀ b,aA.cmp .geq (aZ.cmp l m) 0=b→decide (aM m≤aM l)=b:=fun b h=>by
  rw[← h]
  show _=decide (sgn (aM l) (aM m) ≥ 0)
  rw[An]
 have eS:aZ.sumS x l y m=if x=y then x else if aM m≤aM l then x else y:=rfl
 have eM:aZ.sumM x l y m=if x=y then bS (aM l+aM m) else if aM m≤aM l then bS (aM l - aM m) else bS (aM m - aM l):=rfl
 refine⟨fun h=>?_,fun h h'=>?_,fun h h'=>?_⟩
 ·have h:=of_decide_eq_true (hq _ h)
  rw[eS,eM,if_pos h,if_pos h]
  exact⟨rfl,rfl⟩
 ·have h:=of_decide_eq_false (hq _ h)
  have h':=of_decide_eq_true (hc _ h')
  rw[eS,eM,if_neg h,if_neg h,if_pos h',if_pos h']
  exact⟨rfl,rfl,decide_eq_true (p:=aM m≤aM l) h'⟩
 ·have h:=of_decide_eq_false (hq _ h)
  have h':=of_decide_eq_false (hc _ h')
  rw[eS,eM,if_neg h,if_neg h,if_neg h',if_neg h']
  exact⟨rfl,rfl,decide_eq_true (p:=aM l≤aM m) (by omega)⟩
theorem DN:aJ Tryz.prog 97 (bV [.v, .s (.int .u32), .v, .s (.int .u32)] aA (FG aZ)):=by
 refine dM (un:=⟨false,some [0,1,2,3,8,9,12,20]⟩) tok wM aL (fn:=Tryz.f97) ?_
 intro w Wr args bs r hg ho hWr A L k hA hL hk
 obtain⟨M,hM⟩:=exE aZ
 obtain⟨S,hS⟩:=exE aV
 obtain⟨V,hV⟩:=exE aS
 obtain⟨X,hX⟩:=exE bR
 try rw[← hM]
 try rw[← hS]
 try rw[← hV]
 try rw[← hX]
 try rw[← hA]
 unfold FG at hg
 split at hg <;> cases hg
 rename_i x y l m
 have hl:=(aG ho).1
 have hm:=(aG (aG ho).2).1
 clear ho
 rw[← hM] at hl hm
 have sf:=QO x l y m A hA M hM
 cbv
 repeat' with_reducible first | (intro hb;cbv) | refine UM ?_ ?_
 all_goals first | exact hl | exact hm | exact(sf.e2 (by assumption) (by assumption)).2.2 | exact(sf.e3 (by assumption) (by assumption)).2.2 | skip
 ·have e:=sf.e1 hb
  subst hM
  exact hk _ _ (iV.one _ _ rfl (fun ρ=>Lb e.1) (fO.hs rfl e.2))
 ·rename_i hb0
  have e:=sf.e2 hb0 hb
  subst hM
  exact hk _ _ (iV.one _ _ rfl (fun ρ=>Lb e.1) (fO.hs rfl e.2.1))
 ·rename_i hb0
  have e:=sf.e3 hb0 hb
  subst hM
  exact hk _ _ (iV.one _ _ rfl (fun ρ=>Lb e.1) (fO.hs rfl e.2.1))
def R0 (A:Alg) (S:SW) (V:SV) (X:SX) (M:SM):List (Nat×bU):=(148,aC [.v] A (gIs S)) :: (105,aC [.v] A (vY S)) :: (104,aC [.v, .v] A (yB S)) :: (97,bV [.v, .s (.int .u32), .v, .s (.int .u32)] A (FG M)) :: ((RZ A S V X M))
theorem Ic:COK Tryz.prog (aN (R0 aA aV aS bR aZ)):=aB HX (aB rB (aB z7 (aB DN (wM))))
structure ArF (A:Alg) (S:SW) (V:SV) (X:SX) (M:SM) (x y:Wd):Prop where
 add:X.wV (M.sumS (S.below x) (M.of x) (S.below y) (M.of y)) (M.sumM (S.below x) (M.of x) (S.below y) (M.of y))=V.add x y∧X.wOK (M.sumM (S.below x) (M.of x) (S.below y) (M.of y))=V.addOK x y
 sub:X.wV (M.sumS (S.below x) (M.of x) (A.not (S.below y)) (M.of y)) (M.sumM (S.below x) (M.of x) (A.not (S.below y)) (M.of y))=V.sub x y∧X.wOK (M.sumM (S.below x) (M.of x) (A.not (S.below y)) (M.of y))=V.subOK x y
 mul:X.wV (A.not (A.beq (S.below x) (S.below y))) (M.mul (M.of x) (M.of y))=V.mul x y∧X.wOK (M.mul (M.of x) (M.of y))=V.mulOK x y
 gcd:X.wV false (M.gcd (M.of x) (M.of y))=V.gcd x y
 dz:A.cmp .eql (A.len (M.of y)) 0=true→(⟨false,Dg.zero⟩:Wd)=V.dmQ x y∧(⟨false,Dg.zero⟩:Wd)=V.dmR x y∧false=V.dmOK y
 dn:A.cmp .eql (A.len (M.of y)) 0=false→M.nz (M.of y)=true∧X.wV (A.not (A.beq (S.below x) (S.below y))) (M.dq (M.of x) (M.of y))=V.dmQ x y∧X.wV (S.below x) (M.dr (M.of x) (M.of y))=V.dmR x y∧true=V.dmOK y
theorem Sv (x y:Wd) (A:Alg) (hA:A=aA) (S:SW) (hS:S=aV) (V:SV) (hV:V=aS) (X:SX) (hX:X=bR) (M:SM) (hM:M=aZ):ArF A S V X M x y:=by
 have ez:=(mfs A hA X hX M hM).ez y
 subst hA hS hV hX hM
 have ho: ∀ w:Wd,aM (aZ.of w)=w.d.n:=fun w=>bL _
 have eS: ∀ s t,aZ.sumS s (aZ.of x) t (aZ.of y)=if s=t then s else if y.d.n≤x.d.n then s else t:=fun s t=>by
  show(if s=t then s else if aM (aZ.of y)≤aM (aZ.of x) then s else t)=_
  rw[ho,ho]
 have eM: ∀ s t,aZ.sumM s (aZ.of x) t (aZ.of y)=bS (if s=t then x.d.n+y.d.n else if y.d.n≤x.d.n then x.d.n - y.d.n else y.d.n - x.d.n):=fun s t=>by
  show(if s=t then bS (aM (aZ.of x)+aM (aZ.of y)) else if aM (aZ.of y)≤aM (aZ.of x) then bS (aM (aZ.of x) - aM (aZ.of y)) else bS (aM (aZ.of y) - aM (aZ.of x)))=_
  rw[ho,ho]
  split
  ·rfl
  ·split <;> rfl
 have hsum: ∀ s t,sgd s x.d.n+sgd t y.d.n=sgd (aZ.sumS s (aZ.of x) t (aZ.of y)) (if s=t then x.d.n+y.d.n else if y.d.n≤x.d.n then x.d.n - y.d.n else y.d.n - x.d.n):=fun s t=>by rw[eS];exact B7
 have hx:=SU x
 have hy:=SU y
 have hny:sgd (!aU y) y.d.n= -aK y:=by rw[hy];cases aU y <;> simp[sgd]
 have sgm: ∀ (s t:Bool) (a b:Nat),sgd (!(s == t)) (a*b)=sgd s a*sgd t b:=fun s t a b=>by cases s <;> cases t <;> simp[sgd,Int.neg_mul,Int.mul_neg]
 refine⟨?_,?_,?_,?_,fun h=>?_,fun h=>?_⟩
 ·rw[eM]
  have:=kV (hsum (aU x) (aU y)).symm
  rw[← hx, ← hy] at this
  exact this
 ·rw[eM]
  have:=kV (hsum (aU x) (!aU y)).symm
  rw[← hx,hny, ← Int.sub_eq_add_neg] at this
  exact this
 ·have:=kV (sgm (aU x) (aU y) x.d.n y.d.n)
  rw[← hx, ← hy] at this
  have e:aZ.mul (aZ.of x) (aZ.of y)=bS (x.d.n*y.d.n):=by show bS (aM (aZ.of x)*aM (aZ.of y))=_;rw[ho,ho]
  rw[e]
  exact this
 ·have e:aZ.gcd (aZ.of x) (aZ.of y)=bS (Nat.gcd x.d.n y.d.n):=by show bS (Nat.gcd (aM (aZ.of x)) (aM (aZ.of y)))=_;rw[ho,ho]
  rw[e,(kV (s:=false) (n:=Nat.gcd x.d.n y.d.n) rfl).1]
  have hf:jB (sgd false (Nat.gcd x.d.n y.d.n))=true:=decide_eq_true (p:=_ < 2 ^ 1024) (by rw[oN];exact lR x.d.lt y.d.lt)
  rw[hf]
  show ofZ ((Nat.gcd x.d.n y.d.n:Nat):Int)=ofZ ((Int.gcd (aK x) (aK y):Nat):Int)
  unfold Int.gcd
  rw[bF,bF]
 ·rw[ez,decide_eq_true_eq] at h
  obtain⟨g1,g2,g3⟩:=Cz x y h
  exact⟨g1.symm,g2.symm,g3.symm⟩
 ·rw[ez,decide_eq_false_iff_not] at h
  have hn:aZ.nz (aZ.of y)=true:=decide_eq_true (p:=aM (aZ.of y)≠0) (by rw[ho];exact h)
  obtain⟨g1,g2,g3⟩:=I1 x y h
  have e1:aZ.dq (aZ.of x) (aZ.of y)=bS (x.d.n / y.d.n):=by show bS (aM (aZ.of x) / aM (aZ.of y))=_;rw[ho,ho]
  have e2:aZ.dr (aZ.of x) (aZ.of y)=bS (x.d.n % y.d.n):=by show bS (aM (aZ.of x) % aM (aZ.of y))=_;rw[ho,ho]
  have hq:x.d.n / y.d.n < 2 ^ 1024:=Nat.lt_of_le_of_lt (Nat.div_le_self _ _) x.d.lt
  have hr:x.d.n % y.d.n < 2 ^ 1024:=Nat.lt_of_le_of_lt (Nat.mod_le _ _) x.d.lt
  have key: ∀ (s:Bool) (n:Nat) (D:Dg),n < 2 ^ 1024→D.n=n→bR.wV s (bS n)=tld s D:=fun s n D hn hD=>by
   have hf:jB (sgd s n)=true:=decide_eq_true (p:=_ < 2 ^ 1024) (by rw[oN];exact hn)
   rw[(kV (s:=s) (n:=n) rfl).1,hf,gG,hD];rfl
  refine⟨hn,?_,?_,g3.symm⟩
  ·rw[e1,g1];exact key _ _ _ hq rfl
  ·rw[e2,g2];exact key _ _ _ hr rfl
theorem DM:aJ Tryz.prog 103 (aC [.v, .v] aA (JG aS)):=by
 refine aH (un:=⟨false,some [2,3,4,5,6,7]⟩) tok Ic aL (fn:=Tryz.f103) ?_
 intro w Wr args bs r hg ho hWr A L k hA hL hk
 obtain⟨M,hM⟩:=exE aZ
 obtain⟨S,hS⟩:=exE aV
 obtain⟨V,hV⟩:=exE aS
 obtain⟨X,hX⟩:=exE bR
 try rw[← hM]
 try rw[← hS]
 try rw[← hV]
 try rw[← hX]
 try rw[← hA]
 unfold JG at hg
 split at hg <;> cases hg
 rename_i x y
 have mf:=mfs A hA X hX M hM
 have af:=Sv x y A hA S hS V hV X hX M hM
 cbv
 repeat' with_reducible first | (intro hb;cbv) | refine UM ?_ ?_
 all_goals first | exact mf.of _ | exact mf.ok1 _ (mf.mul _ _) | exact mf.ok2 _ (mf.mul _ _) | skip
 refine hk _ _ (bE.pure rfl fun ρ=>?_)
 subst hV
 exact Tc af.mul.1 af.mul.2
def R1 (A:Alg) (S:SW) (V:SV) (X:SX) (M:SM):List (Nat×bU):=(103,aC [.v, .v] A (JG V)) :: ((R0 A S V X M))
theorem OM:COK Tryz.prog (aN (R1 aA aV aS bR aZ)):=aB DM (Ic)
def R2 (A:Alg) (S:SW) (V:SV) (X:SX) (M:SM):List (Nat×bU):=((R1 A S V X M))
theorem ON:COK Tryz.prog (aN (R2 aA aV aS bR aZ)):=OM
end Go.Eng
