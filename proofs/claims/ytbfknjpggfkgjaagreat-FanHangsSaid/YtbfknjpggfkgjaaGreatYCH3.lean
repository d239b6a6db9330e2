
import Derived.Test.YtbfknjpggfkgjaaGreatYCH2
set_option linter.all false
set_option exponentiation.threshold 3000
set_option maxRecDepth 100000
set_option maxHeartbeats 2000000
namespace Go.Eng
open Go.Proofs
def afC (A:Alg) (I:SP):List CV→List Blk→Option LW
 | [.g [.P a, .P b, .s (.hs 0)]],[.vec false .pt l]=>some ⟨[A.cmp .lss (A.len l) 1000], .c (.s (.hs 1)),[.vec true .pt (I.btw a b l)],[]⟩
 | _,_=>none
structure BtJ (a b:Pt) (m:List Pt) (k:Int) (M:List Pt):Prop where
 k0:0≤k
 k1:k≤aY m
 e:M=XE (onE a b) m k.toNat
theorem UU (F:Pt→Bool) (l:List Pt): ∀ k,(XE F l k).length≤k
 | 0=>Nat.le_refl _
 | k+1=>by
  have:=UU F l k
  unfold XE
  split
  ·rw[List.length_append];simp;omega
  ·omega
structure BtS (A:Alg) (H:SH) (J:SJ) (a b:Pt) (m:List Pt) (k:Int) (M:List Pt):Prop where
 o1:A.cmp .leq 0 k=true
 cap:A.cmp .leq (A.iadd (A.len M) (A.len [dP A m k])) 1000000=true
 n1:A.ite (A.ite (A.ite (H.all [a,b,dP A m k]) (J.on a b (dP A m k)) false) (A.not (A.eqP (dP A m k) a)) false) (A.not (A.eqP (dP A m k) b)) false=true→BtJ a b m (k+1) (A.app M [dP A m k])
 n0:A.ite (A.ite (A.ite (H.all [a,b,dP A m k]) (J.on a b (dP A m k)) false) (A.not (A.eqP (dP A m k) a)) false) (A.not (A.eqP (dP A m k) b)) false=false→BtJ a b m (k+1) M
 ad:A.bin .add .i64 k 1=k+1
 ms:(aY m - (k+1)).toNat < (aY m - k).toNat
theorem agC {a b:Pt} {m:List Pt} {k:Int} {M:List Pt} (hm:aY m < 1000) (h:BtJ a b m k M) (A:Alg) (hA:A=aA) (H:SH) (hH:H=bD) (J:SJ) (hJ:J=kM) (hb:A.cmp .lss k (A.len m)=true):BtS A H J a b m k M:=by
 subst hA hH hJ
 obtain⟨k0,k1,e⟩:=h
 have hb:k < aY m:=of_decide_eq_true hb
 have hl:M.length≤1000:=by rw[e];have:=UU (onE a b) m k.toNat;omega
 have ek:(k+1).toNat=k.toNat+1:=by omega
 have ek2:((k.toNat:Nat):Int)=k:=Int.toNat_of_nonneg k0
 have ei:aA.ite (aA.ite (aA.ite (bD.all [a,b,dP aA m k]) (kM.on a b (dP aA m k)) false) (aA.not (aA.eqP (dP aA m k) a)) false) (aA.not (aA.eqP (dP aA m k) b)) false=onE a b (pC m k):=by
  have ia: ∀ u v:Bool,aA.ite u v false=(u&&v):=fun u v=>by cases u <;> rfl
  rw[ia,ia,ia]
  show(((dX [a,b,pC m k]&&onP a b (pC m k))&& !decide (pC m k=a))&& !decide (pC m k=b))=onE a b (pC m k)
  unfold onE
  rw[Bool.and_assoc]
 refine⟨bJ _ rfl _ _ k0,bJ _ rfl _ _ (by show(M.length:Int)+1≤1000000;omega),fun h=>⟨by omega,by omega,?_⟩,fun h=>⟨by omega,by omega,?_⟩,by show IntKind.i64.wrap _=_;rw[IntKind.wrap_i64];omega,by omega⟩
 ·rw[ei] at h
  rw[ek,XE,ek2,if_pos h, ← e];rfl
 ·rw[ei] at h
  rw[ek,XE,ek2,if_neg (by rw[h];decide)];exact e
structure BtF (A:Alg) (H:SH) (I:SP) (a b:Pt) (l:List Pt):Prop where
 o1:A.cmp .lss (A.len l) 1000000=true
 om:A.cmp .lss (A.len (I.amg a b l)) 1000000=true
 lm:aY (I.amg a b l) < 1000
 no:A.ite (A.not (H.all [a])) true (A.not (H.all [b]))=true→I.btw a b l=[]
 en:A.ite (A.not (H.all [a])) true (A.not (H.all [b]))=false→ ∀ k M,BtJ a b (I.amg a b l) k M→A.cmp .lss k (A.len (I.amg a b l))=false→A.cmp .lss (A.len M) 1000000=true∧(A.cmp .gtr (H.cmp a b) 0=true→I.rv M=I.btw a b l)∧(A.cmp .gtr (H.cmp a b) 0=false→M=I.btw a b l)
theorem agB (A:Alg) (hA:A=aA) (H:SH) (hH:H=bD) (I:SP) (hI:I=f7) (a b:Pt) (l:List Pt) (hl:aY l < 1000):BtF A H I a b l:=by
 subst hA hH hI
 have lm:aY (ZU a b l) < 1000:=by
  have:(ZU a b l).length≤l.length:=by
   show((l.take (toP a b l).toNat).drop (frP a b l).toNat).length≤_
   rw[List.length_drop,List.length_take];omega
  unfold aY at *;omega
 have hor:aA.ite (aA.not (bD.all [a])) true (aA.not (bD.all [b]))= !(dX [a]&&dX [b]):=by
  show(if(!dX [a])=true then true else !dX [b])=_
  cases dX [a] <;> cases dX [b] <;> rfl
 refine⟨bH _ rfl _ _ (by show aY l < 1000000;omega),bH _ rfl _ _ (by show aY (ZU a b l) < 1000000;omega),lm,fun h=>?_,fun h k M hJ hk=>?_⟩
 ·rw[hor,Bool.not_eq_true'] at h
  show aaS a b l=[]
  unfold aaS
  rw[if_neg (by rw[h];decide)]
 ·rw[hor,Bool.not_eq_false'] at h
  have hk: ¬ k < aY (ZU a b l):=of_decide_eq_false hk
  have ek:k=aY (ZU a b l):=by have:=hJ.k1;have e:f7.amg a b l=ZU a b l:=rfl;rw[e] at this;omega
  have eM:M=XE (onE a b) (ZU a b l) (ZU a b l).length:=by rw[hJ.e,ek];rfl
  have ll:=UU (onE a b) (ZU a b l) (ZU a b l).length
  refine⟨bH _ rfl _ _ (by show(M.length:Int) < 1000000;rw[eM];unfold aY at lm;omega),fun h'=>?_,fun h'=>?_⟩
  ·have h':bD.cmp a b > 0:=of_decide_eq_true h'
   show M.reverse=aaS a b l
   unfold aaS adU
   rw[if_pos h,if_pos h',eM]
  ·have h': ¬ bD.cmp a b > 0:=of_decide_eq_false h'
   show M=aaS a b l
   unfold aaS adU
   rw[if_pos h,if_neg h',eM]
def hB1 (A:Alg) (H:SH) (J:SJ) (I:SP):List (Nat×bU):=(80,aC [.v] A (C1 H)) :: (163,aC [.v, .v, .v] A (Mn A H J)) :: (162,bV [.v, .s .pt] A (afB A I)) :: (164,aC [.v] A (adH A H)) :: (165,aR [.a (.sw .pt)] A (afF A I)) :: ([])
theorem aeI:COK Tryz.prog (aN (hB1 aA bD kM f7)):=aB DQ (aB N3 (aB adN (aB aaP (aB aeS (bC)))))
theorem ad9:aJ Tryz.prog 126 (aR [.g [.v, .v, .s .pt]] aA (afC aA f7)):=by
 refine aW (un:=⟨false,some [0,1,2,3,5,6,19,24,25,26,27,55,63]⟩) tok aeI aL (fn:=Tryz.f126) ?_
 intro w Wr args bs r hg ho hWr A L k hA hL hk
 obtain⟨H,hH⟩:=exE bD
 obtain⟨I,hI⟩:=exE f7
 obtain⟨J,hJ⟩:=exE kM
 try rw[← hH]
 try rw[← hI]
 try rw[← hJ]
 try rw[← hA]
 unfold afC at hg
 split at hg <;> cases hg
 rename_i a b l
 have hl:aY l < 1000:=by have h:=(aG ho).1;have h:(l.length:Int) < 1000:=of_decide_eq_true h;exact h
 clear ho
 have f:=agB A hA H hH I hI a b l hl
 cbv
 repeat' with_reducible first | (intro hb;cbv) | refine UM ?_ ?_
 ·have e:=f.no hb
  subst hI
  exact hk _ _ (bW.nils (o:=true) (k:= .pt) (by show[Blk.vec true RK.pt (f7.btw a b l)]=_;rw[e]) rfl (fun ρ=>rfl))
 ·exact f.o1
 have en:=f.en hb
 have om:=f.om
 have lm:=f.lm
 clear f
 have i0:BtJ a b (I.amg a b l) 0 []:=⟨Int.le_refl _,Int.natCast_nonneg _,rfl⟩
 refine hL _ _ _ (gM (un:=⟨false,some [0,1,2,3,5,6,19,24,25,26,27,55,63]⟩) tok aeI aL 1 (fun i hi=>by have:=hWr i hi;simp at this;show i < 1;omega) (fun p:Int×List Pt=>⟨[(26,⟨[], .c (.s (.int .i64 p.1))⟩),(25,⟨[], .c (.s (.int .i64 (A.len (I.amg a b l))))⟩),(24,⟨[], .c (.s (.hs 2))⟩),(3,⟨[], .c (.s (.hs 3))⟩),(2,⟨[], .c (.s .nils)⟩),(1,⟨[], .c (.s (.hp 1 0))⟩),(0,⟨[], .c (.g [.P a, .P b, .s (.hs 0)])⟩)],[(0, .vec false .pt l),(1, .fix true [.P a, .P b, .s (.hs 0)]),(2, .vec false .pt (I.amg a b l)),(3, .vec true .pt p.2)],4⟩)
  (fun p=>BtJ a b (I.amg a b l) p.1 p.2) (fun p=>(aY (I.amg a b l) - p.1).toNat) (0,[]) i0 [(3, .nils)] ?_ (fun _=>Nat.le_of_ble_eq_true rfl) ?_)
 ·exact⟨⟨⟨rfl,rfl,fun _=>rfl⟩,⟨rfl,rfl,fun _=>rfl⟩,⟨rfl,rfl,fun _=>rfl⟩,⟨rfl,rfl,fun _=>rfl⟩,⟨rfl,rfl,fun _=>rfl⟩,⟨rfl,rfl,fun _=>rfl⟩,⟨rfl,rfl,fun _=>rfl⟩,trivial⟩,⟨⟨rfl,rfl,rfl,rfl,fun h=>h⟩,⟨rfl,rfl,fun _=>rfl⟩,⟨rfl,rfl,rfl,rfl,fun h=>h⟩,rfl,trivial⟩,rfl,rfl,rfl,rfl⟩
 clear i0
 rintro⟨k,M⟩ hJ2 A2 L2 k2 hA2 hL2 hnext hexit hret
 have st:=fun hb=>agC lm hJ2 A2 hA2 H hH J hJ hb
 have en:=en k M hJ2
 clear hJ2
 rw[hA, ← hA2] at en
 rw[hA, ← hA2, ← hH, ← hJ, ← hI]
 cbv
 repeat' with_reducible first | (intro hb;cbv) | refine UM ?_ ?_
 all_goals first | exact(st (by assumption)).o1 | assumption | exact(st (by assumption)).cap | skip
 ·have st:=st (by assumption)
  refine hnext _ (k+1,_) [(3, .hs 6)] (st.n1 hb) st.ms ?_
  have ead:=st.ad
  subst hA2 hA
  exact⟨⟨⟨rfl,rfl,leI ead⟩,⟨rfl,rfl,fun _=>rfl⟩,⟨rfl,rfl,fun _=>rfl⟩,⟨rfl,rfl,fun _=>rfl⟩,⟨rfl,rfl,fun _=>rfl⟩,⟨rfl,rfl,fun _=>rfl⟩,⟨rfl,rfl,fun _=>rfl⟩,trivial⟩,⟨⟨rfl,rfl,rfl,rfl,fun h=>h⟩,⟨rfl,rfl,fun _=>rfl⟩,⟨rfl,rfl,rfl,rfl,fun h=>h⟩,⟨rfl,rfl,rfl,rfl,fun h=>h⟩,trivial⟩,rfl,rfl,rfl,rfl⟩
 ·have st:=st (by assumption)
  refine hnext _ (k+1,M) [] (st.n0 hb) st.ms ?_
  have ead:=st.ad
  subst hA2 hA
  exact⟨⟨⟨rfl,rfl,leI ead⟩,⟨rfl,rfl,fun _=>rfl⟩,⟨rfl,rfl,fun _=>rfl⟩,⟨rfl,rfl,fun _=>rfl⟩,⟨rfl,rfl,fun _=>rfl⟩,⟨rfl,rfl,fun _=>rfl⟩,⟨rfl,rfl,fun _=>rfl⟩,trivial⟩,⟨⟨rfl,rfl,rfl,rfl,fun h=>h⟩,⟨rfl,rfl,fun _=>rfl⟩,⟨rfl,rfl,rfl,rfl,fun h=>h⟩,⟨rfl,rfl,rfl,rfl,fun h=>h⟩,trivial⟩,rfl,rfl,rfl,rfl⟩
 ·have e:=en hb
  have eA:A2=A:=hA2.trans hA.symm
  apply hexit
  clear hexit hnext hret st en
  subst eA
  cbv
  repeat' with_reducible first | (intro hb;cbv) | refine UM ?_ ?_
  all_goals first | exact e.1 | skip
  ·have e:=e.2.1 hb
   subst hI
   exact hk _ _ (bW.one (t:=3) rfl rfl (Nat.le_of_ble_eq_true rfl) (fun ρ=>rfl) rfl (.vec e))
  ·have e:=e.2.2 hb
   subst hI
   exact hk _ _ (bW.one (t:=3) rfl rfl (Nat.le_of_ble_eq_true rfl) (fun ρ=>rfl) rfl (.vec e))
end Go.Eng
