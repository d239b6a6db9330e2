
import Derived.Test.YtklnlmebjeoidaaGreatYLH1
import Derived.Test.YtklnlmebjeoidaaGreatYCH11
import Derived.Test.YtklnlmebjeoidaaGreatSpecP4
set_option linter.all false
set_option exponentiation.threshold 3000
set_option maxRecDepth 100000
set_option maxHeartbeats 2000000
namespace Go.Eng
open Go.Proofs
def ahC (f:Pt→Pt→List Pt) (c:List Pt):Nat→List Pt
 | 0=>[]
 | j+1=>(pC c (aY c - (j+1)) :: f (pC c (aY c - (j+1))) (pC c ((aY c - j) % aY c)))++ahC f c j
theorem ag9 (f:Pt→Pt→List Pt) (c:List Pt): ∀ j,j≤c.length→acX f c c.length=acX f c (c.length - j)++ahC f c j
 | 0,_=>by rw[Nat.sub_zero,ahC,List.append_nil]
 | j+1,h=>by
  rw[ag9 f c j (by omega),ahC]
  rw[show c.length - j=(c.length - (j+1))+1 by omega,acX]
  have e1:((c.length - (j+1):Nat):Int)=aY c - (j+1):=by unfold aY;omega
  have e2:aY c - ((j:Int)+1)+1=aY c - j:=by omega
  rw[e1,e2,List.append_assoc,List.append_assoc]
  rfl
structure RcJ (n c M:List Pt) (i k:Int):Prop where
 i0:0≤i
 i1:i≤aY M
 k0:0≤k
 k1:k≤aY c
 R: ∃ R:List Pt,M.drop i.toNat=R++ahC (fun a b=>aaS a b n) c (aY c - k).toNat∧ ∀ x∈R,1≤k∧onE (pC c (k - 1)) (pC c (k % aY c)) x=true∧x∈n
structure ahP (n c M:List Pt):Prop where
 hn:Z4 n
 hc: ∀ p∈c,dJ p=true
 cl:aY c≤4
 eM:M=acX (fun a b=>aaS a b n) c c.length
 mLen:aY M < 1000000
theorem ahK {a b:Pt} {n:List Pt} (hn:Z4 n) (ha:dJ a=true) (hb:dJ b=true) {x:Pt} (hx:x∈aaS a b n):onE a b x=true∧x∈n:=by
 unfold aaS adU at hx
 have e:(dX [a]&&dX [b])=true:=by unfold dX;simp[ha,hb]
 rw[if_pos e,ad0 hn ha hb] at hx
 have h:x∈n.filter (onE a b):=by
  split at hx
  ·exact List.mem_reverse.1 hx
  ·exact hx
 exact⟨(List.mem_filter.1 h).2,(List.mem_filter.1 h).1⟩
theorem ahE {n:List Pt} (hn:Z4 n) {x:Pt} (hx:x∈n): ¬ dL.find n x < 0:=by
 have hp:=hn.mem hx
 have ht:i8 n x=true:=by
  obtain⟨k,hk,e⟩:=List.mem_iff_getElem.1 hx
  have lt:=acW hn hp
  have pb:=UV n x
  have hle:aY n=(n.length:Int):=rfl
  have hpos:(k:Int)=hO n x:=by
   have ek:pC n (k:Int)=x:=by rw[dI hk,e]
   rcases Int.lt_trichotomy (k:Int) (hO n x) with h | h | h
   ·have:=lt.1 k (by omega) h
    rw[ek] at this
    rw[ac2] at this;grind
   ·exact h
   ·exfalso
    have h1:=lt.2 (hO n x) (Int.le_refl _) (by omega)
    have h2:=hn.lt (hO n x) k pb.1 h (by omega)
    rw[ek] at h2
    exact h1 h2
  unfold i8
  rw[← hpos,dI hk,e,decide_eq_true (by omega),VJ hp hp,decide_eq_true (adE.2 ⟨rfl,rfl⟩)];rfl
 show ¬ (if(dJ x&&i8 n x)=true then hO n x else -1) < 0
 rw[if_pos (by rw[hp,ht];rfl)]
 have:=UV n x
 omega
def ahD (A:Alg) (M c:List Pt) (i k:Int):Bool:=A.ite (A.cmp .lss k (A.len c)) (A.eqP (dP A M i) (dP A c k)) false
def ahV (A:Alg) (c:List Pt) (k:Int):Pt:=dP A c (A.bin .sub .i64 k 1)
def ahU (A:Alg) (c:List Pt) (k:Int):Pt:=dP A c (A.bin .rem .i64 k (A.len c))
def ahQ (A:Alg) (H:SH) (J:SJ) (I:SP) (n M c:List Pt) (i k:Int):Bool:=A.ite (A.ite (A.not (H.all [ahV A c k,ahU A c k,dP A M i])) true (A.not (A.ite (H.all [ahV A c k,ahU A c k,dP A M i]) (J.on (ahV A c k) (ahU A c k) (dP A M i)) false))) true (A.cmp .lss (I.find n (dP A M i)) 0)
structure RcN (A:Alg) (H:SH) (J:SJ) (I:SP) (n c M:List Pt) (i k:Int):Prop where
 k0:A.cmp .eql k 0=false
 p0:A.cmp .leq 0 (A.bin .sub .i64 k 1)=true
 p1:A.cmp .lss (A.bin .sub .i64 k 1) (A.len c)=true
 nz:A.cmp .neq (A.len c) 0=true
 m0:A.cmp .leq 0 (A.bin .rem .i64 k (A.len c))=true
 m1:A.cmp .lss (A.bin .rem .i64 k (A.len c)) (A.len c)=true
 bad:ahQ A H J I n M c i k=false
 nx:RcJ n c M (i+1) k
structure RcS (A:Alg) (H:SH) (J:SJ) (I:SP) (n c M:List Pt) (i k:Int):Prop where
 o1:A.cmp .leq 0 i=true
 q1:A.cmp .leq 0 k=true
 gk: ∀ b,A.imp (A.beq (A.cmp .lss k (A.len c)) b) true=true
 im: ∀ c d,d=true→A.imp c d=true
 ik:A.imp (A.beq (A.cmp .lss k (A.len c)) true) (A.cmp .lss k (A.len c))=true
 y:ahD A M c i k=true→RcJ n c M (i+1) (k+1)
 n:ahD A M c i k=false→RcN A H J I n c M i k
 ad:A.bin .add .i64 i 1=i+1
 ak:A.bin .add .i64 k 1=k+1
 ms:(aY M - (i+1)).toNat < (aY M - i).toNat
theorem aiB {n c M:List Pt} {i k:Int} (f:ahP n c M) (h:RcJ n c M i k) (A:Alg) (hA:A=aA) (H:SH) (hH:H=bD) (J:SJ) (hJ:J=kM) (I:SP) (hI:I=dL) (hb:A.cmp .lss i (A.len M)=true):RcS A H J I n c M i k:=by
 subst hA hH hJ hI
 obtain⟨i0,i1,k0,k1,R,hR,hm⟩:=h
 have hb:i < aY M:=of_decide_eq_true hb
 have hlM:aY M=(M.length:Int):=rfl
 have hlc:aY c=(c.length:Int):=rfl
 have hcl:=f.cl
 have hMl:=f.mLen
 have ia: ∀ u v:Bool,aA.ite u v false=(u&&v):=fun u v=>by cases u <;> rfl
 have it: ∀ u v:Bool,aA.ite u true v=(u||v):=fun u v=>by cases u <;> rfl
 have ei:((i.toNat:Nat):Int)=i:=Int.toNat_of_nonneg i0
 have ei1:(i+1).toNat=i.toNat+1:=by omega
 have hd:M.drop i.toNat=pC M i :: M.drop (i+1).toNat:=by
  rw[List.drop_eq_getElem_cons (by omega),ei1]
  congr 1
  rw[← dI (by omega),ei]
 rw[hd] at hR
 have hcp: ∀ j:Int,0≤j→j < aY c→dJ (pC c j)=true:=fun j j0 j1=>by
  have:=dI (l:=c) (k:=j.toNat) (by omega)
  rw[Int.toNat_of_nonneg j0] at this
  rw[this];exact f.hc _ (List.getElem_mem _)
 have ck:ahD aA M c i k=(decide (k < aY c)&&decide (pC M i=pC c k)):=by unfold ahD;rw[ia];rfl
 have ad:aA.bin .add .i64 i 1=i+1:=by show IntKind.i64.wrap _=_;rw[IntKind.wrap_i64];omega
 have ak:aA.bin .add .i64 k 1=k+1:=by show IntKind.i64.wrap _=_;rw[IntKind.wrap_i64];omega
 have im: ∀ c d,d=true→aA.imp c d=true:=fun c d h=>by rw[h];cases c <;> rfl
 have ik:aA.imp (aA.beq (aA.cmp .lss k (aA.len c)) true) (aA.cmp .lss k (aA.len c))=true:=by cases aA.cmp .lss k (aA.len c) <;> rfl
 refine⟨bJ _ rfl _ _ i0,bJ _ rfl _ _ k0,fun b=>im _ _ rfl,im,ik,fun hc=>?_,fun hc=>?_,ad,ak,by omega⟩
 ·rw[ck,Bool.and_eq_true,decide_eq_true_eq,decide_eq_true_eq] at hc
  match R,hR,hm with
  | [],hR,_=>
   rw[List.nil_append,show(aY c - k).toNat=(aY c - (k+1)).toNat+1 by omega,ahC] at hR
   have e1:aY c - (((aY c - (k+1)).toNat:Nat)+1)=k:=by omega
   have e2:aY c - (((aY c - (k+1)).toNat:Nat))=k+1:=by omega
   rw[e1,e2] at hR
   have hR:=(List.cons.inj hR).2
   refine⟨by omega,by omega,by omega,by omega,aaS (pC c k) (pC c ((k+1) % aY c)) n,hR,fun x hx=>⟨by omega,?_⟩⟩
   rw[show k+1 - 1=k by omega]
   exact ahK f.hn (hcp _ k0 hc.1) (hcp _ (Int.emod_nonneg _ (by omega)) (Int.emod_lt_of_pos _ (by omega))) hx
  | y :: R',hR,hm=>
   exfalso
   obtain⟨h1,h2,h3⟩:=hm y (by simp)
   have e:=(List.cons.inj hR).1
   rw[Int.emod_eq_of_lt k0 hc.1] at h2
   exact(acA h2).2.2.2.2.2 (by rw[← e,hc.2])
 ·rw[ck] at hc
  match R,hR,hm with
  | [],hR,_=>
   exfalso
   rw[List.nil_append] at hR
   by_cases hk:k < aY c
   ·rw[show(aY c - k).toNat=(aY c - (k+1)).toNat+1 by omega,ahC] at hR
    have e1:aY c - (((aY c - (k+1)).toNat:Nat)+1)=k:=by omega
    rw[e1] at hR
    have e:=(List.cons.inj hR).1
    rw[decide_eq_true hk,decide_eq_true e] at hc
    cases hc
   ·rw[show(aY c - k).toNat=0 by omega,ahC] at hR
    cases hR
  | y :: R',hR,hm=>
   obtain⟨h1,h2,h3⟩:=hm y (by simp)
   have e:=(List.cons.inj hR).1
   have hR':=(List.cons.inj hR).2
   rw[← e] at h2 h3
   obtain⟨g1,g2,g3,g4,g5,g6⟩:=acA h2
   have hm0:=Int.emod_nonneg k (show aY c≠0 by omega)
   have hm1:=Int.emod_lt_of_pos k (show 0 < aY c by omega)
   have sb:aA.bin .sub .i64 k 1=k - 1:=by show IntKind.i64.wrap _=_;rw[IntKind.wrap_i64];omega
   have rm:aA.bin .rem .i64 k (aA.len c)=k % aY c:=by
    show k.tmod (aY c)=_
    rw[Int.tmod_eq_emod_of_nonneg k0]
   refine⟨?_,?_,?_,?_,?_,?_,?_,⟨by omega,by omega,k0,k1,R',hR',fun x hx=>hm x (by simp[hx])⟩⟩
   ·show(k == 0)=false
    rw[beq_eq_false_iff_ne];omega
   ·rw[sb];exact bJ _ rfl _ _ (by omega)
   ·rw[sb];exact bH _ rfl _ _ (by show k - 1 < aY c;omega)
   ·show(aY c != 0)=true
    rw[bne_iff_ne];omega
   ·rw[rm];exact bJ _ rfl _ _ hm0
   ·rw[rm];exact bH _ rfl _ _ (by show _ < aY c;omega)
   ·have a1:bD.all [pC c (k - 1),pC c (k % aY c),pC M i]=true:=AL g1 g2 g3
    have a2:kM.on (pC c (k - 1)) (pC c (k % aY c)) (pC M i)=true:=g4
    have e1:ahV aA c k=pC c (k - 1):=by unfold ahV;rw[sb];rfl
    have e2:ahU aA c k=pC c (k % aY c):=by unfold ahU;rw[rm];rfl
    have e3:dP aA M i=pC M i:=rfl
    unfold ahQ
    rw[e1,e2,e3,a1,a2,it]
    show(false||decide (dL.find n (pC M i) < 0))=false
    rw[decide_eq_false (ahE f.hn h3)];rfl
theorem ah9 {n c M:List Pt} {i k:Int} (h:RcJ n c M i k) (A:Alg) (hA:A=aA) (hb:A.cmp .lss i (A.len M)=false):A.cmp .eql k (A.len c)=true:=by
 subst hA
 obtain⟨i0,i1,k0,k1,R,hR,hm⟩:=h
 have hb: ¬ i < aY M:=of_decide_eq_false hb
 have hlM:aY M=(M.length:Int):=rfl
 have e0:M.drop i.toNat=[]:=List.drop_eq_nil_of_le (by omega)
 rw[e0] at hR
 have h2:=(List.append_eq_nil_iff.1 hR.symm).2
 show(k == aY c)=true
 rw[beq_iff_eq]
 by_cases hk:k=aY c
 ·exact hk
 ·rw[show(aY c - k).toNat=(aY c - (k+1)).toNat+1 by omega,ahC] at h2
  cases h2
def ahR:List CV→List Blk→Option LW
 | [.g [.P u, .P v, .P w], .s (.hs 0)],[.vec false .pt l]=>some ⟨[], .c (.s (.bool true)),[],[]⟩
 | _,_=>none
structure ahX (A:Alg) (I:SP) (u v w:Pt) (l:List Pt):Prop where
 pf:af5 A I u v w l
 cl:A.cmp .lss (A.len (I.cor u v w)) 1000000=true
 nl:A.cmp .lss (A.len (I.srt l)) 1000000=true
 rise:I.rise (I.srt l)=true
 f:ahP (I.srt l) (I.cor u v w) (I.rim u v w (I.srt l))
 i0:RcJ (I.srt l) (I.cor u v w) (I.rim u v w (I.srt l)) 0 0
theorem aiA (A:Alg) (hA:A=aA) (I:SP) (hI:I=dL) (u v w:Pt) (l:List Pt) (h:A.ite (A.cmp .gtr (A.len l) 20) true (A.not (I.good u v w))=false):ahX A I u v w l:=by
 obtain⟨h1,h2⟩:=acM hA h
 have pf:=afT A hA I hI u v w h1
 subst hA hI
 have hg:(!acJ u v w)=false:=h2
 rw[Bool.not_eq_false'] at hg
 have hs:(dL.srt l).length≤20:=Nat.le_trans (acO l l.length) h1
 have hcl:=ab8 u v w
 have hn:Z4 (dL.srt l):=Vi l l.length
 have hMl:aY (dL.rim u v w (dL.srt l)) < 1000000:=acT pf.c1
 have eM:dL.rim u v w (dL.srt l)=acX (fun a b=>aaS a b (dL.srt l)) (ZX u v w) (ZX u v w).length:=rfl
 refine⟨pf,bH _ rfl _ _ (by show aY (ZX u v w) < 1000000;omega),bH _ rfl _ _ (by show((dL.srt l).length:Int) < 1000000;omega),aaQ.2 hn,⟨hn,ad2 hg,hcl,eM,hMl⟩,⟨Int.le_refl _,Int.natCast_nonneg _,Int.le_refl _,Int.natCast_nonneg _,[],?_,fun x hx=>by cases hx⟩⟩
 have e:=ag9 (fun a b=>aaS a b (dL.srt l)) (ZX u v w) (ZX u v w).length (Nat.le_refl _)
 rw[Nat.sub_self] at e
 show(dL.rim u v w (dL.srt l)).drop 0=[]++ahC (fun a b=>aaS a b (dL.srt l)) (ZX u v w) (aY (ZX u v w) - 0).toNat
 rw[List.drop_zero,eM,e,show(aY (ZX u v w) - 0).toNat=(ZX u v w).length by unfold aY;omega]
 rfl
def uY4 (A:Alg) (H:SH) (J:SJ) (I:SP):List (Nat×bU):=(7,aR [] A (Zy)) :: (8,aR [.a .v] A (acI I)) :: (9,aR [.a (.s .pt)] A (afH A I)) :: (11,aR [.a .v, .a (.s .pt)] A (ae8 A I)) :: (21,aR [.a .v] A (ac0 I)) :: (17,aC [.v, .v, .v] A (Mn A H J)) :: (22,aR [.a (.s .pt), .a .v] A (ahY A I H)) :: ([])
theorem ahW:COK Tryz.prog (aN (uY4 aA bD kM dL)):=aB ac1 (aB ac8 (aB adM (aB adB (aB ad7 (aB N6 (aB ahG (bC)))))))
theorem ag8:aJ Tryz.prog 6 (aR [.a .v, .a (.s .pt)] aA (ahR)):=by
 refine aW (un:=⟨false,some [0,1,2,4,5,6,7,8,9,10,11,13,21,32,49,53,88]⟩) tok ahW aL (fn:=Tryz.f6) ?_
 intro w Wr args bs r hg ho hWr A L k hA hL hk
 obtain⟨H,hH⟩:=exE bD
 obtain⟨I,hI⟩:=exE dL
 obtain⟨J,hJ⟩:=exE kM
 try rw[← hH]
 try rw[← hI]
 try rw[← hJ]
 try rw[← hA]
 unfold ahR at hg
 split at hg <;> cases hg
 rename_i u v w l
 have pf:=fun h=>aiA A hA I hI u v w l h
 cbv
 repeat' with_reducible first | (intro hb;cbv) | refine UM ?_ ?_
 ·exfalso;subst hA;cases hb
 ·exact hk _ _ (bW.pure rfl rfl fun ρ=>dT rfl)
 ·exact(pf hb).pf.o1
 ·exact(pf hb).pf.n1
 have pf:=pf hb
 have f:=pf.f
 have nl:=pf.nl
 have ris:=pf.rise
 refine hL _ _ _ (aQ (un:=⟨false,some [0,1,2,4,5,6,7,8,9,10,11,13,21,32,49,53,88]⟩) tok ahW aL (fun p:Int×Int=>⟨[(9,⟨[], .c (.s (.int .i64 p.1))⟩),(8,⟨[], .c (.s (.int .i64 p.2))⟩),(7,⟨[], .c (.s (.hs 4))⟩),(6,⟨[], .c (.s (.hs 3))⟩),(5,⟨[], .c (.s (.hs 2))⟩),(4,⟨[], .c (.s (.tt false))⟩)],[(0, .vec false .pt l),(1, .fix true [.P u, .P v, .P w]),(2, .vec true .pt (I.srt l)),(3, .vec true .pt (I.rim u v w (I.srt l))),(4, .vec true .pt (I.cor u v w))],5⟩)
  (fun p=>RcJ (I.srt l) (I.cor u v w) (I.rim u v w (I.srt l)) p.1 p.2) (fun p=>(aY (I.rim u v w (I.srt l)) - p.1).toNat) (0,0) pf.i0 ?_ (fun _ i hi=>by have:=hWr i hi;simp at this;show i < 5;omega) ?_)
 ·exact⟨⟨⟨rfl,rfl,fun _=>rfl⟩,⟨rfl,rfl,fun _=>rfl⟩,⟨rfl,rfl,fun _=>rfl⟩,⟨rfl,rfl,fun _=>rfl⟩,⟨rfl,rfl,fun _=>rfl⟩,⟨rfl,rfl,fun _=>rfl⟩,trivial⟩,⟨aF rfl,aF rfl,aF rfl,aF rfl,aF rfl,trivial⟩,rfl,rfl⟩
 clear pf
 rintro⟨i,k⟩ hJ2 A2 L2 k2 hA2 hL2 hnext hexit hret
 have st:=fun hb=>aiB f hJ2 A2 hA2 H hH J hJ I hI hb
 have en:=fun hb=>ah9 hJ2 A2 hA2 hb
 rw[hA, ← hA2] at nl
 clear hJ2
 rw[← hA2, ← hH, ← hJ, ← hI]
 with_reducible refine fA fun kk hn hx=>?_
 cbv
 repeat' with_reducible first | (intro hb;cbv) | refine UM ?_ ?_
 rotate_left
 ·refine hx (.exit 0) _ (fun h=>by cases h) ?_
  clear hn hx kk
  cbv
  have e:=en hb
  apply hexit
  clear hexit hnext hret st en
  have e2:A.cmp .eql k (A.len (I.cor u v w))=true:=by rw[hA, ← hA2];exact e
  cbv
  exact hk _ _ (bW.pure rfl rfl fun ρ=>dB e2)
 with_reducible refine hn _ ?_
 clear hn hx kk
 have st:=st hb
 with_reducible refine fA fun k4 hn4 hx4=>?_
 with_reducible refine ZM fun k5 n5 e5 x5 r5=>?_
 with_reducible refine fA fun kk hn hx=>?_
 cbv
 repeat' with_reducible first | (intro hb;cbv) | refine UM ?_ ?_
 all_goals first | exact st.im _ _ st.o1 | exact st.im _ _ (by assumption) | exact st.im _ _ st.q1 | exact st.ik | skip
 ·refine hx (.exit 1) _ (fun h=>by cases h) ?_
  refine e5 _ ?_
  refine hn4 _ ?_
  clear hn hx kk n5 e5 x5 r5 hn4 hx4
  cbv
  have ny:=st.y hb
  have ead:=st.ad
  have eak:=st.ak
  have ems:=st.ms
  refine hnext _ (i+1,k+1) ny ems ?_
  subst hA2 hA
  exact⟨⟨⟨rfl,rfl,leI ead⟩,⟨rfl,rfl,leI eak⟩,⟨rfl,rfl,fun _=>rfl⟩,⟨rfl,rfl,fun _=>rfl⟩,⟨rfl,rfl,fun _=>rfl⟩,⟨rfl,rfl,fun _=>rfl⟩,trivial⟩,⟨aF rfl,aF rfl,aF rfl,aF rfl,aF rfl,trivial⟩,rfl,rfl⟩
 have sn:=st.n hb
 with_reducible refine hn _ ?_
 clear hn hx kk
 with_reducible refine fA fun kk hn hx=>?_
 cbv
 repeat' with_reducible first | (intro hb;cbv) | refine UM ?_ ?_
 ·exfalso
  have e2:=hb.symm.trans sn.k0
  cases e2
 with_reducible refine hn _ ?_
 clear hn hx kk
 with_reducible refine fA fun kk hn hx=>?_
 cbv
 repeat' with_reducible first | (intro hb;cbv) | refine UM ?_ ?_
 all_goals first | exact st.o1 | assumption | exact sn.p0 | exact sn.p1 | exact sn.nz | exact sn.m0 | exact sn.m1 | skip
 with_reducible refine hn _ ?_
 clear hn hx kk
 cbv
 repeat' with_reducible first | (intro hb;cbv) | refine UM ?_ ?_
 all_goals first | exact st.im _ _ st.o1 | exact st.im _ _ (by assumption) | exact st.im _ _ nl | exact st.im _ _ ris | skip
 ·exfalso
  have e2:=hb.symm.trans sn.bad
  cases e2
 ·refine n5 _ ?_
  refine hn4 _ ?_
  clear n5 e5 x5 r5 hn4 hx4
  cbv
  refine hnext _ (i+1,k) sn.nx st.ms ?_
  have ead:=st.ad
  subst hA2 hA
  exact⟨⟨⟨rfl,rfl,leI ead⟩,⟨rfl,rfl,fun _=>rfl⟩,⟨rfl,rfl,fun _=>rfl⟩,⟨rfl,rfl,fun _=>rfl⟩,⟨rfl,rfl,fun _=>rfl⟩,⟨rfl,rfl,fun _=>rfl⟩,trivial⟩,⟨aF rfl,aF rfl,aF rfl,aF rfl,aF rfl,trivial⟩,rfl,rfl⟩
end Go.Eng
