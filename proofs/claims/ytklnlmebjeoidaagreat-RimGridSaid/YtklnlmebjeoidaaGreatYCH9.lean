
import Derived.Test.YtklnlmebjeoidaaGreatYCH8
set_option linter.all false
set_option exponentiation.threshold 3000
set_option maxRecDepth 100000
set_option maxHeartbeats 2000000
namespace Go.Eng
open Go.Proofs
def ae7 (A:Alg) (I:SP):List CV→List Blk→Option LW
 | [.g [.P a], .g [.P b], .s (.hs 0)],[.vec false .pt l]=>some ⟨[A.cmp .lss (A.len l) 1000], .c (.s (.hs 1)),[.vec true .pt (I.btwq a b l)],[]⟩
 | _,_=>none
structure BqJ (a b:Pt) (l:List Pt) (k:Int) (M:List Pt):Prop where
 k0:0≤k
 k1:k≤aY l
 e:M=XE (onQ a b) l k.toNat
def aeC (A:Alg) (F:SF) (a b p:Pt):Bool:=A.ite (A.cmp .gtr (A.bin .mul .i64 (F.cmp p.X a.X) (F.cmp p.X b.X)) 0) true (A.cmp .gtr (A.bin .mul .i64 (F.cmp p.Y a.Y) (F.cmp p.Y b.Y)) 0)
def onA (A:Alg) (H:SH) (J:SJ) (a b p:Pt):Bool:=A.ite (A.ite (A.ite (H.all [a,b,p]) (J.on a b p) false) (A.not (A.eqP p a)) false) (A.not (A.eqP p b)) false
structure BqS (A:Alg) (F:SF) (H:SH) (J:SJ) (a b:Pt) (l:List Pt) (k:Int) (M:List Pt):Prop where
 o1:A.cmp .leq 0 k=true
 cap:A.cmp .leq (A.iadd (A.len M) (A.len [dP A l k])) 1000000=true
 n0:aeC A F a b (dP A l k)=true→BqJ a b l (k+1) M
 n1:aeC A F a b (dP A l k)=false→onA A H J a b (dP A l k)=true→BqJ a b l (k+1) (A.app M [dP A l k])
 n2:aeC A F a b (dP A l k)=false→onA A H J a b (dP A l k)=false→BqJ a b l (k+1) M
 ad:A.bin .add .i64 k 1=k+1
 ms:(aY l - (k+1)).toNat < (aY l - k).toNat
theorem af7 {a b:Pt} {l:List Pt} {k:Int} {M:List Pt} (hl:aY l < 1000) (h:BqJ a b l k M) (A:Alg) (hA:A=aA) (F:SF) (hF:F=aO) (H:SH) (hH:H=bD) (J:SJ) (hJ:J=kM) (hb:A.cmp .lss k (A.len l)=true):BqS A F H J a b l k M:=by
 subst hA hF hH hJ
 obtain⟨k0,k1,e⟩:=h
 have hb:k < aY l:=of_decide_eq_true hb
 have hM:M.length≤1000:=by rw[e];have:=UU (onQ a b) l k.toNat;omega
 have ek:(k+1).toNat=k.toNat+1:=by omega
 have ek2:((k.toNat:Nat):Int)=k:=Int.toNat_of_nonneg k0
 have ia: ∀ u v:Bool,aA.ite u v false=(u&&v):=fun u v=>by cases u <;> rfl
 have it: ∀ u v:Bool,aA.ite u true v=(u||v):=fun u v=>by cases u <;> rfl
 have eb:aeC aA aO a b (dP aA l k)=ae9 a b (pC l k):=by unfold aeC;rw[it];rfl
 have eo:onA aA bD kM a b (dP aA l k)=onE a b (pC l k):=by
  unfold onA
  rw[ia,ia,ia]
  show(((dX [a,b,pC l k]&&onP a b (pC l k))&& !decide (pC l k=a))&& !decide (pC l k=b))=onE a b (pC l k)
  unfold onE
  rw[Bool.and_assoc]
 refine⟨bJ _ rfl _ _ k0,bJ _ rfl _ _ (by show(M.length:Int)+1≤1000000;omega),fun h=>⟨by omega,by omega,?_⟩,fun h h2=>⟨by omega,by omega,?_⟩,fun h h2=>⟨by omega,by omega,?_⟩,by show IntKind.i64.wrap _=_;rw[IntKind.wrap_i64];omega,by omega⟩
 ·rw[eb] at h
  rw[ek,XE,ek2,if_neg (by unfold onQ;rw[h];simp)];exact e
 ·rw[eb] at h
  rw[eo] at h2
  rw[ek,XE,ek2,if_pos (by unfold onQ;rw[h,h2];rfl), ← e];rfl
 ·rw[eb] at h
  rw[eo] at h2
  rw[ek,XE,ek2,if_neg (by unfold onQ;rw[h,h2];simp)];exact e
structure BrJ (N:List Pt) (k:Int) (M:List Pt):Prop where
 k0: -1≤k
 k1:k < aY N
 e:M=(N.drop (k+1).toNat).reverse
structure BrS (A:Alg) (N:List Pt) (k:Int) (M:List Pt):Prop where
 o2:A.cmp .lss k (A.len N)=true
 cap:A.cmp .leq (A.iadd (A.len M) (A.len [dP A N k])) 1000000=true
 nx:BrJ N (k - 1) (A.app M [dP A N k])
 ad:A.bin .sub .i64 k 1=k - 1
 ms:(k - 1+1).toNat < (k+1).toNat
theorem af8 {N:List Pt} {k:Int} {M:List Pt} (hl:aY N < 1000) (h:BrJ N k M) (A:Alg) (hA:A=aA) (hb:A.cmp .geq k 0=true):BrS A N k M:=by
 subst hA
 obtain⟨k0,k1,e⟩:=h
 have hb:k ≥ 0:=of_decide_eq_true hb
 have hle:aY N=(N.length:Int):=rfl
 have hM:M.length≤1000:=by rw[e,List.length_reverse,List.length_drop];omega
 refine⟨bH _ rfl _ _ k1,bJ _ rfl _ _ (by show(M.length:Int)+1≤1000000;omega),⟨by omega,by omega,?_⟩,by show IntKind.i64.wrap _=_;rw[IntKind.wrap_i64];omega,by omega⟩
 show M++[pC N k]=_
 rw[show k - 1+1=k by omega]
 have hd:N.drop k.toNat=pC N k :: N.drop (k+1).toNat:=by
  rw[List.drop_eq_getElem_cons (by omega),show(k+1).toNat=k.toNat+1 by omega]
  congr 1
  rw[← dI (by omega),Int.toNat_of_nonneg hb]
 rw[hd,List.reverse_cons, ← e]
structure BqE (A:Alg) (H:SH) (I:SP) (a b:Pt) (l:List Pt) (M:List Pt):Prop where
 len:aY M < 1000
 o1:A.cmp .lss (A.len M) 1000000=true
 o2:A.imp (A.beq (A.cmp .gtr (A.len M) 1) true) (H.all [a,b])=true
 no:A.ite (A.cmp .gtr (A.len M) 1) (A.cmp .gtr (H.cmp a b) 0) false=false→M=I.btwq a b l
 y0:A.ite (A.cmp .gtr (A.len M) 1) (A.cmp .gtr (H.cmp a b) 0) false=true→BrJ M (A.bin .sub .i64 (A.len M) 1) []
 y1:A.ite (A.cmp .gtr (A.len M) 1) (A.cmp .gtr (H.cmp a b) 0) false=true→ ∀ k R,BrJ M k R→A.cmp .geq k 0=false→R=I.btwq a b l
theorem ab6 {a b:Pt} {l:List Pt} {k:Int} {M:List Pt} (hl:aY l < 1000) (h:BqJ a b l k M) (A:Alg) (hA:A=aA) (H:SH) (hH:H=bD) (I:SP) (hI:I=dL) (hb:A.cmp .lss k (A.len l)=false):BqE A H I a b l M:=by
 subst hA hH hI
 obtain⟨k0,k1,e⟩:=h
 have hb: ¬ k < aY l:=of_decide_eq_false hb
 have hle:aY l=(l.length:Int):=rfl
 have hlM:aY M=(M.length:Int):=rfl
 have eM:M=XE (onQ a b) l l.length:=by rw[e];congr 1;omega
 have hM:M.length≤l.length:=by rw[eM];exact UU _ _ _
 have ia: ∀ u v:Bool,aA.ite u v false=(u&&v):=fun u v=>by cases u <;> rfl
 have g1: ∀ x y:Int,aA.cmp .gtr x y=decide (x > y):=fun _ _=>rfl
 have eq:dL.btwq a b l=if bD.cmp a b > 0 then M.reverse else M:=by show adU a b _=_;unfold adU;rw[← eM]
 refine⟨by omega,bH _ rfl _ _ (by show aY M < 1000000;omega),?_,fun h=>?_,fun h=>?_,fun h k R hJ hk=>?_⟩
 ·have hab:M≠[]→bD.all [a,b]=true:=fun hne=>by
   obtain⟨x,hx⟩:=List.exists_mem_of_ne_nil M hne
   rw[eM,ab9,List.mem_filter] at hx
   have h:=hx.2
   unfold onQ onE at h
   rw[Bool.and_eq_true,Bool.and_eq_true,Bool.and_eq_true] at h
   have h:([a,b,x].all dJ)=true:=h.2.1.1
   simp only[List.all_cons,List.all_nil,Bool.and_true,Bool.and_eq_true] at h
   show(dJ a&&(dJ b&&true))=true
   rw[h.1,h.2.1];rfl
  match M,hab with
  | [],_=>rfl
  | x :: M',hab=>rw[hab (by simp)];cases aA.beq (aA.cmp .gtr (aA.len (x :: M')) 1) true <;> rfl
 ·rw[eq]
  by_cases hc:bD.cmp a b > 0
  ·rw[if_pos hc]
   rw[ia,g1,g1,decide_eq_true hc,Bool.and_true,decide_eq_false_iff_not] at h
   have:M.length≤1:=by have: ¬ (M.length:Int) > 1:=h;omega
   match M,this with
   | [],_=>rfl
   | [x],_=>rfl
  ·rw[if_neg hc]
 ·rw[ia,g1,g1,Bool.and_eq_true,decide_eq_true_eq] at h
  have h1:(M.length:Int) > 1:=h.1
  have:aA.bin .sub .i64 (aA.len M) 1=(M.length:Int) - 1:=by show IntKind.i64.wrap ((M.length:Int) - 1)=_;rw[IntKind.wrap_i64];omega
  rw[this]
  refine⟨by omega,by omega,?_⟩
  rw[show((M.length:Int) - 1+1).toNat=M.length by omega,List.drop_length];rfl
 ·rw[ia,g1,g1,Bool.and_eq_true,decide_eq_true_eq,decide_eq_true_eq] at h
  have hk: ¬ k ≥ 0:=of_decide_eq_false hk
  have hk0:=hJ.k0
  rw[eq,if_pos h.2,hJ.e,show(k+1).toNat=0 by omega,List.drop_zero]
def hD0 (A:Alg) (F:SF) (H:SH) (J:SJ):List (Nat×bU):=(27,aC [.v, .v] A (ac6 F)) :: (17,aC [.v, .v, .v] A (Mn A H J)) :: (28,aC [.v, .v] A (acS H)) :: ([])
theorem ad4:COK Tryz.prog (aN (hD0 aA aO bD kM)):=aB ac9 (aB N6 (aB acU (bC)))
theorem adA:aJ Tryz.prog 15 (aR [.a .v, .a .v, .a (.s .pt)] aA (ae7 aA dL)):=by
 refine aW (un:=⟨false,some [0,1,2,3,4,6,7,8,9,10,12,13,17,49,67,80,85]⟩) tok ad4 aL (fn:=Tryz.f15) ?_
 intro w Wr args bs r hg ho hWr A L k hA hL hk
 obtain⟨F,hF⟩:=exE aO
 obtain⟨H,hH⟩:=exE bD
 obtain⟨I,hI⟩:=exE dL
 obtain⟨J,hJ⟩:=exE kM
 try rw[← hF]
 try rw[← hH]
 try rw[← hI]
 try rw[← hJ]
 try rw[← hA]
 unfold ae7 at hg
 split at hg <;> cases hg
 rename_i a b l
 have o1:=(aG ho).1
 have hl:aY l < 1000:=by have h:(l.length:Int) < 1000:=of_decide_eq_true o1;exact h
 clear ho o1
 have i0:BqJ a b l 0 []:=⟨Int.le_refl _,Int.natCast_nonneg _,rfl⟩
 cbv
 refine hL _ _ _ (gM (un:=⟨false,some [0,1,2,3,4,6,7,8,9,10,12,13,17,49,67,80,85]⟩) tok ad4 aL 1 (fun i hi=>by have:=hWr i hi;simp at this;show i < 1;omega) (fun p:Int×List Pt=>⟨[(8,⟨[], .c (.s (.int .i64 p.1))⟩),(7,⟨[], .c (.s (.hs 3))⟩),(6,⟨[], .c (.s .nils)⟩),(4,⟨[], .c (.s (.hp 2 0))⟩),(3,⟨[], .c (.s (.hp 1 0))⟩),(2,⟨[], .c (.s (.hs 0))⟩)],[(0, .vec false .pt l),(1, .fix true [.P a]),(2, .fix true [.P b]),(3, .vec true .pt p.2)],4⟩)
  (fun p=>BqJ a b l p.1 p.2) (fun p=>(aY l - p.1).toNat) (0,[]) i0 [(3, .nils)] ?_ (fun _=>Nat.le_of_ble_eq_true rfl) ?_)
 ·exact⟨⟨⟨rfl,rfl,fun _=>rfl⟩,⟨rfl,rfl,fun _=>rfl⟩,⟨rfl,rfl,fun _=>rfl⟩,⟨rfl,rfl,fun _=>rfl⟩,⟨rfl,rfl,fun _=>rfl⟩,⟨rfl,rfl,fun _=>rfl⟩,trivial⟩,⟨⟨rfl,rfl,rfl,rfl,fun h=>h⟩,⟨rfl,rfl,fun _=>rfl⟩,⟨rfl,rfl,fun _=>rfl⟩,rfl,trivial⟩,rfl,rfl,rfl,rfl⟩
 clear i0
 rintro⟨k,M⟩ hJ2 A2 L2 k2 hA2 hL2 hnext hexit hret
 have st:=fun hb=>af7 hl hJ2 A2 hA2 F hF H hH J hJ hb
 have en:=fun hb=>ab6 hl hJ2 A2 hA2 H hH I hI hb
 clear hJ2
 rw[← hA2, ← hF, ← hH, ← hJ]
 cbv
 repeat' first | ((with_reducible intro hb);cbv) | with_reducible refine And.intro ?_ ?_
 all_goals first | exact(st (by assumption)).o1 | assumption | exact(st (by assumption)).cap | skip
 ·have st:=st (by assumption)
  refine hnext _ (k+1,M) [] (st.n0 hb) st.ms ?_
  have ead:=st.ad
  subst hA2 hA
  exact⟨⟨⟨rfl,rfl,leI ead⟩,⟨rfl,rfl,fun _=>rfl⟩,⟨rfl,rfl,fun _=>rfl⟩,⟨rfl,rfl,fun _=>rfl⟩,⟨rfl,rfl,fun _=>rfl⟩,⟨rfl,rfl,fun _=>rfl⟩,trivial⟩,⟨⟨rfl,rfl,rfl,rfl,fun h=>h⟩,⟨rfl,rfl,fun _=>rfl⟩,⟨rfl,rfl,fun _=>rfl⟩,⟨rfl,rfl,rfl,rfl,fun h=>h⟩,trivial⟩,rfl,rfl,rfl,rfl⟩
 ·have st:=st (by assumption)
  refine hnext _ (k+1,_) [(3, .hs 6)] (st.n1 (by assumption) hb) st.ms ?_
  have ead:=st.ad
  subst hA2 hA
  exact⟨⟨⟨rfl,rfl,leI ead⟩,⟨rfl,rfl,fun _=>rfl⟩,⟨rfl,rfl,fun _=>rfl⟩,⟨rfl,rfl,fun _=>rfl⟩,⟨rfl,rfl,fun _=>rfl⟩,⟨rfl,rfl,fun _=>rfl⟩,trivial⟩,⟨⟨rfl,rfl,rfl,rfl,fun h=>h⟩,⟨rfl,rfl,fun _=>rfl⟩,⟨rfl,rfl,fun _=>rfl⟩,⟨rfl,rfl,rfl,rfl,fun h=>h⟩,trivial⟩,rfl,rfl,rfl,rfl⟩
 ·have st:=st (by assumption)
  refine hnext _ (k+1,M) [] (st.n2 (by assumption) hb) st.ms ?_
  have ead:=st.ad
  subst hA2 hA
  exact⟨⟨⟨rfl,rfl,leI ead⟩,⟨rfl,rfl,fun _=>rfl⟩,⟨rfl,rfl,fun _=>rfl⟩,⟨rfl,rfl,fun _=>rfl⟩,⟨rfl,rfl,fun _=>rfl⟩,⟨rfl,rfl,fun _=>rfl⟩,trivial⟩,⟨⟨rfl,rfl,rfl,rfl,fun h=>h⟩,⟨rfl,rfl,fun _=>rfl⟩,⟨rfl,rfl,fun _=>rfl⟩,⟨rfl,rfl,rfl,rfl,fun h=>h⟩,trivial⟩,rfl,rfl,rfl,rfl⟩
 ·have e:=en hb
  have eA:A2=A:=hA2.trans hA.symm
  apply hexit
  clear hexit hnext hret st en
  subst eA
  cbv
  repeat' with_reducible first | (intro hb;cbv) | refine UM ?_ ?_
  ·exact e.o2
  ·have y0:=e.y0 hb
   have y1:=e.y1 hb
   have hlM:=e.len
   have eo:=e.o1
   clear e
   refine hL _ _ _ (gM (un:=⟨false,some [0,1,2,3,4,6,7,8,9,10,12,13,17,49,67,80,85]⟩) tok ad4 aL 1 (fun i hi=>by have:=hWr i hi;simp at this;show i < 1;omega) (fun p:Int×List Pt=>⟨[(13,⟨[], .c (.s (.int .i64 p.1))⟩),(12,⟨[], .c (.s (.hs 4))⟩),(7,⟨[], .c (.s (.hs 3))⟩)],[(0, .vec false .pt l),(3, .vec true .pt M),(4, .vec true .pt p.2)],5⟩)
    (fun p=>BrJ M p.1 p.2) (fun p=>(p.1+1).toNat) (_,[]) y0 [(4, .nils)] ?_ (fun _=>Nat.le_of_ble_eq_true rfl) ?_)
   ·exact⟨⟨⟨rfl,rfl,fun _=>rfl⟩,⟨rfl,rfl,fun _=>rfl⟩,⟨rfl,rfl,fun _=>rfl⟩,trivial⟩,⟨⟨rfl,rfl,rfl,rfl,fun h=>h⟩,⟨rfl,rfl,rfl,rfl,fun h=>h⟩,rfl,trivial⟩,rfl,rfl,rfl,rfl⟩
   clear y0
   rintro⟨j,R⟩ hJ2 A3 L3 k3 hA3 hL3 hnext hexit hret
   have st:=fun hb=>af8 hlM hJ2 A3 hA3 hb
   have en:=fun hb:A3.cmp .geq j 0=false=>y1 j R hJ2 (by rw[hA, ← hA3];exact hb)
   clear hJ2
   have e0: ∀ hb:A3.cmp .geq j 0=true,A3.cmp .leq 0 j=true:=fun hb=>by subst hA3;have hb:j ≥ 0:=of_decide_eq_true hb;exact bJ _ rfl _ _ hb
   rw[← hA3, ← hF, ← hH, ← hJ]
   cbv
   repeat' with_reducible first | (intro hb;cbv) | refine UM ?_ ?_
   all_goals first | exact e0 (by assumption) | exact(st (by assumption)).o2 | exact(st (by assumption)).cap | skip
   ·have st:=st (by assumption)
    refine hnext _ (j - 1,_) [(4, .hs 6)] st.nx st.ms ?_
    have ead:=st.ad
    subst hA3 hA
    exact⟨⟨⟨rfl,rfl,leI ead⟩,⟨rfl,rfl,fun _=>rfl⟩,⟨rfl,rfl,fun _=>rfl⟩,trivial⟩,⟨⟨rfl,rfl,rfl,rfl,fun h=>h⟩,⟨rfl,rfl,rfl,rfl,fun h=>h⟩,⟨rfl,rfl,rfl,rfl,fun h=>h⟩,trivial⟩,rfl,rfl,rfl,rfl⟩
   ·have e:=en (by assumption)
    have eA:A3=A2:=hA3.trans hA.symm
    apply hexit
    clear hexit hnext hret st en e0 y1
    subst eA hI
    cbv
    exact hk _ _ (bW.one (t:=4) rfl rfl (Nat.le_of_ble_eq_true rfl) (fun ρ=>rfl) rfl (.vec e))
  ·have e:=e.no hb
   subst hI
   exact hk _ _ (bW.one (t:=3) rfl rfl (Nat.le_of_ble_eq_true rfl) (fun ρ=>rfl) rfl (.vec e))
end Go.Eng
