
import Derived.Test.YtlonkgccgccieaaNB0
import Derived.Test.YtlonkgccgccieaaSpecQ3
set_option linter.all false
set_option exponentiation.threshold 3000
set_option maxRecDepth 100000
set_option maxHeartbeats 4000000
namespace Go.Eng
open Go.Proofs
def akP (A:Alg):List CV→List Blk→Option LW
 | [.s (.hs 0), .s (.int .u8 b)],[.vec false .pt l]=>some ⟨[A.cmp .leq 0 b,A.cmp .lss b 256], .c (.s (.bool true)),[],[]⟩
 | _,_=>none
def ak6 (A:Alg) (b:Int) (l:List Pt):Int:=A.bin .rem .i64 (A.wrap .i64 b) (A.len l)
def aj6 (A:Alg) (l:List Pt) (K:Int):List Pt:=A.app (A.sub l K (A.len l)) (A.sub l 0 K)
structure OrF (A:Alg) (H:SH) (I:SP) (l:List Pt) (K:Int):Prop where
 ne:A.cmp .neq (A.len l) 0=true
 c1:A.cmp .lss (A.len l) 100000=true
 k0:A.cmp .leq 0 K=true
 k1:A.cmp .leq K (A.len l)=true
 ll:A.cmp .leq (A.len l) (A.len l)=true
 z:A.cmp .leq 0 0=true
 c2:A.cmp .leq (A.len (A.sub l K (A.len l))) 1000000=true
 c3:A.cmp .leq (A.iadd (A.len (A.sub l K (A.len l))) (A.len (A.sub l 0 K))) 1000000=true
 c4:A.cmp .lss (A.len (aj6 A l K)) 100000=true
 d1:A.cmp .lss (A.len (I.srt l)) 1000000=true
 d2:A.cmp .lss (A.len (I.srt (aj6 A l K))) 1000000=true
 same:true=I.same (I.srt l) (I.srt (aj6 A l K))
 rise:Z4 (I.srt l)
 lt:aY (I.srt l) < 1000
 mem: ∀ x,x∈l→x∈I.srt l
 ll2:aY l < 1000
theorem RL (A:Alg) (hA:A=aA) (H:SH) (hH:H=bD) (I:SP) (hI:I=f7) {l:List Pt} {b:Int} (h0:0≤b) (h1:b < 256) (hb:A.ite (A.ite (A.cmp .gtr (A.len l) 30) true (A.cmp .eql (A.len l) 0)) true (A.not (H.all l))=false):OrF A H I l (ak6 A b l):=by
 have it: ∀ u v:Bool,A.ite u true v=(u||v):=fun u v=>by subst hA;cases u <;> rfl
 rw[it,it,Bool.or_eq_false_iff,Bool.or_eq_false_iff] at hb
 obtain⟨⟨g1,g2⟩,g3⟩:=hb
 subst hA hH hI
 have g1: ¬ (l.length:Int) > 30:=of_decide_eq_false g1
 have g2:((l.length:Int) == 0)=false:=g2
 have g2: ¬ (l.length:Int)=0:=by simpa using g2
 have g3: ∀ x,x∈l→dJ x=true:=by
  have h:(!(l.all dJ))=false:=g3
  rw[Bool.not_eq_false'] at h
  exact List.all_eq_true.1 h
 have e:ak6 aA b l=b % (l.length:Int):=by
  unfold ak6
  have w1:aA.wrap .i64 b=b:=by show IntKind.i64.wrap _=_;rw[IntKind.wrap_i64];omega
  rw[w1]
  exact Int.tmod_eq_emod_of_nonneg h0
 have r0:=Int.emod_nonneg b g2
 have r1:=Int.emod_lt_of_pos b (show(0:Int) < l.length by omega)
 have hs:=acO l l.length
 have hs:((f7.srt l).length:Int)≤l.length:=by show((ac3 l l.length).length:Int)≤_;omega
 rw[e]
 generalize hK:b % (l.length:Int)=K at r0 r1
 have t1:aA.sub l K (aA.len l)=l.drop K.toNat:=by show(l.take (l.length:Int).toNat).drop K.toNat=_;rw[Int.toNat_natCast,List.take_length]
 have t2:aA.sub l 0 K=l.take K.toNat:=by show(l.take K.toNat).drop (0:Int).toNat=_;rw[Int.toNat_zero,List.drop_zero]
 have tt:aj6 aA l K=l.drop K.toNat++l.take K.toNat:=by unfold aj6;rw[t1,t2];rfl
 have es:f7.srt (aj6 aA l K)=f7.srt l:=by rw[tt];exact aj4 l K.toNat
 have n1:((l.drop K.toNat).length:Int)≤1000:=by rw[List.length_drop];omega
 have n2:((l.take K.toNat).length:Int)≤1000:=by rw[List.length_take];omega
 have n3:((l.drop K.toNat++l.take K.toNat).length:Int)≤2000:=by rw[List.length_append];omega
 have m1:((l.drop K.toNat).length:Int)≤1000000:=by omega
 have m2:((l.drop K.toNat).length:Int)+((l.take K.toNat).length:Int)≤1000000:=by omega
 have m3:((l.drop K.toNat++l.take K.toNat).length:Int) < 100000:=by omega
 have m4:((f7.srt l).length:Int) < 1000000:=by omega
 have m5:(l.length:Int) < 100000:=by omega
 have ln: ∀ X:List Pt,aA.len X=(X.length:Int):=fun _=>rfl
 refine⟨?_,bH _ rfl _ _ m5,bJ _ rfl _ _ r0,bJ _ rfl _ _ (by rw[ln];omega),bJ _ rfl _ _ (Int.le_refl _),bJ _ rfl _ _ (Int.le_refl _),by rw[t1,ln];exact bJ _ rfl _ _ m1,by rw[t1,t2,ln,ln];exact bJ _ rfl _ _ m2,by rw[tt,ln];exact bH _ rfl _ _ m3,by rw[ln];exact bH _ rfl _ _ m4,by rw[es,ln];exact bH _ rfl _ _ m4,by rw[es];exact(decide_eq_true rfl).symm,Vi l l.length,by show((f7.srt l).length:Int) < 1000;omega,fun x hx=>(aiO l x l.length (Nat.le_refl _)).2 ⟨by rw[List.take_length];exact hx,g3 x hx⟩,by show(l.length:Int) < 1000;omega⟩
 show((l.length:Int) != 0)=true
 simpa using g2
structure OiJ (n:Int) (k:Int):Prop where
 k0:0≤k
 k1:k≤n
def alK (A:Alg) (H:SH) (I:SP) (a:List Pt) (k:Int):Bool:=A.ite (A.ite (A.cmp .gtr k 0) (A.cmp .neq (H.cmp (dP A a (A.bin .sub .i64 k 1)) (dP A a k)) (-1)) false) true (A.cmp .neq (I.find a (dP A a k)) k)
structure OiS (A:Alg) (H:SH) (I:SP) (a:List Pt) (k:Int):Prop where
 o1:A.cmp .leq 0 k=true
 o2:A.cmp .lss k (A.len a)=true
 u1:A.imp (A.beq (A.cmp .gtr k 0) true) (A.cmp .leq 0 (A.bin .sub .i64 k 1))=true
 u2:A.imp (A.beq (A.cmp .gtr k 0) true) (A.cmp .lss (A.bin .sub .i64 k 1) (A.len a))=true
 u3:A.imp (A.beq (A.cmp .gtr k 0) true) (H.all [dP A a (A.bin .sub .i64 k 1),dP A a k])=true
 im: ∀ c d,d=true→A.imp c d=true
 bad:alK A H I a k=false
 ad:A.bin .add .i64 k 1=k+1
 nx:OiJ (aY a) (k+1)
 ms:(aY a - (k+1)).toNat < (aY a - k).toNat
theorem amF {a:List Pt} {k:Int} (ha:Z4 a) (hl:aY a < 1000) (h:OiJ (aY a) k) (A:Alg) (hA:A=aA) (H:SH) (hH:H=bD) (I:SP) (hI:I=f7) (hb:A.cmp .lss k (A.len a)=true):OiS A H I a k:=by
 subst hA hH hI
 obtain⟨k0,k1⟩:=h
 have hb:k < aY a:=of_decide_eq_true hb
 have sb:aA.bin .sub .i64 k 1=k - 1:=by show IntKind.i64.wrap _=_;rw[IntKind.wrap_i64];omega
 have gp: ∀ i,dP aA a i=pC a i:=fun _=>rfl
 have ip: ∀ u v:Bool,(u=true→v=true)→aA.imp (aA.beq u true) v=true:=fun u v h=>by cases u <;> cases v <;> first | rfl | exact absurd (h rfl) (by decide)
 have ok:=ha.ok k k0 hb
 refine⟨bJ _ rfl _ _ k0,bH _ rfl _ _ hb,ip _ _ fun h=>?_,ip _ _ fun h=>?_,ip _ _ fun h=>?_,fun c d h=>by rw[h];cases c <;> rfl,?_,by show IntKind.i64.wrap _=_;rw[IntKind.wrap_i64];omega,⟨by omega,by omega⟩,by omega⟩
 ·have h:k > 0:=of_decide_eq_true h
  rw[sb];exact bJ _ rfl _ _ (by omega)
 ·rw[sb];exact bH _ rfl _ _ (by show k - 1 < aY a;omega)
 ·have h:k > 0:=of_decide_eq_true h
  rw[sb,gp,gp]
  exact Po (ha.ok (k - 1) (by omega) (by omega)) ok
 ·unfold alK
  rw[sb,gp,gp,aiX ha k0 hb]
  have e1:aA.cmp .neq k k=false:=by show(k != k)=false;simp
  rw[e1]
  by_cases hk:k > 0
  ·have hlt:=ha.lt (k - 1) k (by omega) (by omega) hb
   have e2:bD.cmp (pC a (k - 1)) (pC a k)= -1:=by
    rw[VJ (ha.ok (k - 1) (by omega) (by omega)) ok]
    rcases jE (pC a (k - 1)) (pC a k) with ⟨_,h1,_⟩ | ⟨_,_,h1,_⟩ | ⟨_,h1,_⟩ <;> omega
   rw[e2,show aA.cmp .gtr k 0=true from decide_eq_true hk];rfl
  ·rw[show aA.cmp .gtr k 0=false from decide_eq_false hk];rfl
def alJ (A:Alg) (I:SP) (a l:List Pt) (k:Int):Bool:=A.ite (A.ite (A.cmp .lss (I.find a (dP A l k)) 0) true (A.cmp .geq (I.find a (dP A l k)) (A.len a))) true (A.not (A.eqP (dP A a (I.find a (dP A l k))) (dP A l k)))
structure OmS (A:Alg) (I:SP) (a l:List Pt) (k:Int):Prop where
 o1:A.cmp .leq 0 k=true
 o2:A.cmp .lss k (A.len l)=true
 p1:A.cmp .leq 0 (I.find a (dP A l k))=true
 p2:A.cmp .lss (I.find a (dP A l k)) (A.len a)=true
 im: ∀ c d,d=true→A.imp c d=true
 bad:alJ A I a l k=false
 ad:A.bin .add .i64 k 1=k+1
 nx:OiJ (aY l) (k+1)
 ms:(aY l - (k+1)).toNat < (aY l - k).toNat
theorem amG {a l:List Pt} {k:Int} (ha:Z4 a) (hm: ∀ x,x∈l→x∈a) (hl:aY l < 1000) (h:OiJ (aY l) k) (A:Alg) (hA:A=aA) (I:SP) (hI:I=f7) (hb:A.cmp .lss k (A.len l)=true):OmS A I a l k:=by
 subst hA hI
 obtain⟨k0,k1⟩:=h
 have hb:k < aY l:=of_decide_eq_true hb
 have gp: ∀ (X:List Pt) i,dP aA X i=pC X i:=fun _ _=>rfl
 have hx:pC l k∈l:=by
  have e:((k.toNat:Nat):Int)=k:=Int.toNat_of_nonneg k0
  have hlt:k.toNat < l.length:=by unfold aY at hb;omega
  rw[← e,eD hlt];exact List.getElem_mem _
 obtain⟨f0,f1,f2⟩:=ahE ha (hm _ hx)
 refine⟨bJ _ rfl _ _ k0,bH _ rfl _ _ hb,by rw[gp];exact bJ _ rfl _ _ f0,by rw[gp];exact bH _ rfl _ _ f1,fun c d h=>by rw[h];cases c <;> rfl,?_,by show IntKind.i64.wrap _=_;rw[IntKind.wrap_i64];omega,⟨by omega,by omega⟩,by omega⟩
 unfold alJ
 rw[gp l,gp a,f2]
 have e1:aA.cmp .lss (f7.find a (pC l k)) 0=false:=decide_eq_false (by omega)
 have e2:aA.cmp .geq (f7.find a (pC l k)) (aA.len a)=false:=decide_eq_false (show ¬ f7.find a (pC l k) ≥ aY a by omega)
 have e3:aA.eqP (pC l k) (pC l k)=true:=decide_eq_true rfl
 rw[e1,e2,e3];rfl
theorem akL {A:Alg} (hA:A=aA) {l:List Pt} :A.imp (A.beq (A.ite (A.cmp .gtr (A.len l) 30) true (A.cmp .eql (A.len l) 0)) false) (A.cmp .lss (A.len l) 1000000)=true:=by
 subst hA
 by_cases h:(l.length:Int) > 30
 ·rw[show aA.cmp .gtr (aA.len l) 30=true from decide_eq_true h];rfl
 ·rw[show aA.cmp .lss (aA.len l) 1000000=true from bH _ rfl _ _ (by show(l.length:Int) < _;omega)]
  cases aA.beq _ _ <;> rfl
def nB2 (A:Alg) (H:SH) (I:SP):List (Nat×bU):=(35,aR [] A (aiD)) :: (36,aC [.s .pt] A (uH A H)) :: (37,aR [.a (.s .pt)] A (ajA A I)) :: (38,aC [.v, .v] A (acS H)) :: (39,aR [.a (.s .pt), .a .v] A (ajG A I)) :: (40,aR [.a (.s .pt), .a (.s .pt)] A (afG A I)) :: ([])
theorem akK:COK Try.prog (aN (nB2 aA bD f7)):=aB aiI (aB KK (aB aiL (aB acU (aB aiT (aB adL (bC))))))
theorem aiU:aJ Try.prog 9 (aR [.a (.s .pt), .a .v] aA (akP aA)):=by
 refine aW (un:=⟨false,some [0,1,4,5,6,7,8,9,10,12,25,45,72,76,103]⟩) tok akK aL (fn:=Try.f9) ?_
 intro w Wr args bs r hg ho hWr A L k hA hL hk
 obtain⟨H,hH⟩:=exE bD
 obtain⟨I,hI⟩:=exE f7
 try rw[← hH]
 try rw[← hI]
 try rw[← hA]
 unfold akP at hg
 split at hg <;> cases hg
 rename_i b l
 have h0:0≤b:=of_decide_eq_true (aG ho).1
 have h1:b < 256:=of_decide_eq_true (aG (aG ho).2).1
 clear ho
 have f:=fun hb=>RL A hA H hH I hI (l:=l) h0 h1 hb
 cbv
 repeat' with_reducible first | (intro hb;cbv) | refine UM ?_ ?_
 ·exfalso;subst hA;cases hb
 ·exact akL hA
 ·exact hk _ _ (bW.pure rfl rfl fun ρ=>dT rfl)
 all_goals (have f:=f (by assumption))
 all_goals first | exact f.ne | exact f.c1 | exact f.k0 | exact f.k1 | exact f.ll | exact f.z | exact f.c2 | exact f.c3 | exact f.c4 | skip
 have i0:OiJ (aY (I.srt l)) 0:=⟨Int.le_refl _,Int.natCast_nonneg _⟩
 refine hL _ _ _ (aQ (un:=⟨false,some [0,1,4,5,6,7,8,9,10,12,25,45,72,76,103]⟩) tok akK aL (fun k:Int=>⟨[(8,⟨[], .c (.s (.int .i64 k))⟩),(7,⟨[], .c (.s (.hs 4))⟩),(6,⟨[], .c (.s (.hs 1))⟩),(4,⟨[], .c (.s (.tt false))⟩),(0,⟨[], .c (.s (.hs 0))⟩)],[(4, .vec true .pt (I.srt (aj6 A l (ak6 A b l)))),(1, .vec true .pt (I.srt l)),(0, .vec false .pt l)],5⟩)
  (fun k=>OiJ (aY (I.srt l)) k) (fun k=>(aY (I.srt l) - k).toNat) 0 i0 ?_ (fun _ i hi=>by have:=hWr i hi;simp at this;show i < 5;omega) ?_)
 ·exact⟨⟨⟨rfl,rfl,fun _=>rfl⟩,⟨rfl,rfl,fun _=>rfl⟩,⟨rfl,rfl,fun _=>rfl⟩,⟨rfl,rfl,fun _=>rfl⟩,⟨rfl,rfl,fun _=>rfl⟩,trivial⟩,⟨aF rfl,aF rfl,aF rfl,trivial⟩,rfl,rfl⟩
 clear i0
 intro k hJ A2 L2 k2 hA2 hL2 hnext hexit hret
 have eA:A2=A:=hA2.trans hA.symm
 subst eA
 have st:=fun hb=>amF f.rise f.lt hJ A2 hA2 H hH I hI hb
 clear hJ
 rw[← hA2, ← hH, ← hI]
 cbv
 repeat' with_reducible first | (intro hb;cbv) | refine UM ?_ ?_
 all_goals first | (have st:=st (by assumption);first | exact st.u1 | exact st.u2 | exact st.u3 | exact st.im _ _ st.o1 | exact st.im _ _ st.o2 | exact st.im _ _ f.d1) | skip
 ·exfalso
  have st:=st (by assumption)
  have e:=st.bad
  unfold alK at e
  have e2:=hb.symm.trans e
  cases e2
 ·have st:=st (by assumption)
  refine hnext _ (k+1) st.nx st.ms ?_
  have ead:=st.ad
  subst hA2
  exact⟨⟨⟨rfl,rfl,leI ead⟩,⟨rfl,rfl,fun _=>rfl⟩,⟨rfl,rfl,fun _=>rfl⟩,⟨rfl,rfl,fun _=>rfl⟩,⟨rfl,rfl,fun _=>rfl⟩,trivial⟩,⟨aF rfl,aF rfl,aF rfl,trivial⟩,rfl,rfl⟩
 apply hexit
 clear hexit hnext hret st
 have i0:OiJ (aY l) 0:=⟨Int.le_refl _,Int.natCast_nonneg _⟩
 cbv
 refine hL _ _ _ (aQ (un:=⟨false,some [0,1,4,5,6,7,8,9,10,12,25,45,72,76,103]⟩) tok akK aL (fun k:Int=>⟨[(9,⟨[], .c (.s (.int .i64 k))⟩),(7,⟨[], .c (.s (.hs 4))⟩),(6,⟨[], .c (.s (.hs 1))⟩),(4,⟨[], .c (.s (.tt false))⟩),(0,⟨[], .c (.s (.hs 0))⟩)],[(4, .vec true .pt (I.srt (aj6 A2 l (ak6 A2 b l)))),(1, .vec true .pt (I.srt l)),(0, .vec false .pt l)],5⟩)
  (fun k=>OiJ (aY l) k) (fun k=>(aY l - k).toNat) 0 i0 ?_ (fun _ i hi=>by have:=hWr i hi;simp at this;show i < 5;omega) ?_)
 ·exact⟨⟨⟨rfl,rfl,fun _=>rfl⟩,⟨rfl,rfl,fun _=>rfl⟩,⟨rfl,rfl,fun _=>rfl⟩,⟨rfl,rfl,fun _=>rfl⟩,⟨rfl,rfl,fun _=>rfl⟩,trivial⟩,⟨aF rfl,aF rfl,aF rfl,trivial⟩,rfl,rfl⟩
 clear i0
 intro k hJ A3 L3 k3 hA3 hL3 hnext hexit hret
 have eA:A3=A2:=hA3.trans hA2.symm
 subst eA
 have st:=fun hb=>amG f.rise f.mem f.ll2 hJ A3 hA3 I hI hb
 clear hJ
 rw[← hA3, ← hI]
 cbv
 repeat' with_reducible first | (intro hb;cbv) | refine UM ?_ ?_
 all_goals first | (have st:=st (by assumption);first | exact st.o1 | exact st.o2 | exact st.im _ _ st.o1 | exact st.im _ _ st.o2 | exact st.im _ _ st.p1 | exact st.im _ _ st.p2 | exact f.d1) | skip
 ·exfalso
  have st:=st (by assumption)
  have e:=st.bad
  unfold alJ at e
  have e2:=hb.symm.trans e
  cases e2
 ·have st:=st (by assumption)
  refine hnext _ (k+1) st.nx st.ms ?_
  have ead:=st.ad
  subst hA3
  exact⟨⟨⟨rfl,rfl,leI ead⟩,⟨rfl,rfl,fun _=>rfl⟩,⟨rfl,rfl,fun _=>rfl⟩,⟨rfl,rfl,fun _=>rfl⟩,⟨rfl,rfl,fun _=>rfl⟩,trivial⟩,⟨aF rfl,aF rfl,aF rfl,trivial⟩,rfl,rfl⟩
 apply hexit
 clear hexit hnext hret st
 cbv
 repeat' with_reducible first | (intro hb;cbv) | refine UM ?_ ?_
 all_goals first | exact f.d1 | exact f.d2 | skip
 exact hk _ _ (bW.pure rfl rfl fun ρ=>dB f.same.symm)
end Go.Eng
