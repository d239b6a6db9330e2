
import Derived.Test.YtbfknjpggfkgjaaGreatYNF3
import Derived.Test.YtbfknjpggfkgjaaGreatYNAA
import Derived.Test.YtbfknjpggfkgjaaGreatYCH7
set_option linter.all false
set_option exponentiation.threshold 3000
set_option maxRecDepth 100000
set_option maxHeartbeats 4000000
namespace Go.Eng
open Go.Proofs
def an2 (A:Alg) (I:SP) (P:SNd):List CV→List Blk→Option LW
 | [.s (.hs 0)],[.vec false (.row [.int .i64, .int .i64, .int .i64, .P, .P, .P]) l]=>some ⟨[A.cmp .lss (A.len l) 10000,A.cmp .lss (A.len (I.srt (P.cors l))) 1000,A.cmp .lss (A.len (P.all (I.srt (P.cors l)) l)) 30000], .c (.g [.s (.hs 1), .s (.hs 2), .s .nils]),[.vec true .pt (I.srt (P.pts (P.all (I.srt (P.cors l)) l))), .vec true .i3 (P.srt3 (P.tris (I.srt (P.pts (P.all (I.srt (P.cors l)) l))) (P.all (I.srt (P.cors l)) l)))],[]⟩
 | _,_=>none
structure BoJ (n:List Pt) (l:List PcR) (k:Int) (M:List T3) (Q:List Pt):Prop where
 k0:0≤k
 k1:k≤(l.length:Int)
 e:M=am3 n l k.toNat
 q:Q=anJ M
structure BiJ (n:List Pt) (l:List PcR) (k:Int) (F:List T3) (j:Int) (M:List T3) (Q:List Pt):Prop where
 j0:0≤j
 j1:j≤(F.length:Int)
 e:M=am3 n l k.toNat++F.take j.toNat
 q:Q=anJ M
def fnA (A:Alg) (I:SP) (P:SNd) (l:List PcR) (N:List Pt) (k:Int):List T3:=P.fan (ajU A l k).2.2.2.1 (ajU A l k).2.2.2.2.1 (ajU A l k).2.2.2.2.2.1 (I.rim (ajU A l k).2.2.2.1 (ajU A l k).2.2.2.2.1 (ajU A l k).2.2.2.2.2.1 N)
theorem anE (n:List Pt) (l:List PcR) (j:Nat): ∀ k,(am3 n l j).length≤(am3 n l (j+k)).length
 | 0=>Nat.le_refl _
 | k+1=>by
  have:=anE n l j k
  rw[← Nat.add_assoc,am3,List.length_append]
  omega
structure BoS (A:Alg) (I:SP) (P:SNd) (n:List Pt) (l:List PcR) (k:Int) (M:List T3) (Q:List Pt):Prop where
 o1:A.cmp .leq 0 k=true
 n1:A.cmp .lss (A.len n) 1000=true
 r1:A.cmp .lss (A.len (I.rim (ajU A l k).2.2.2.1 (ajU A l k).2.2.2.2.1 (ajU A l k).2.2.2.2.2.1 n)) 10000=true
 i0:BiJ n l k (fnA A I P l n k) 0 M Q
 tot:((am3 n l k.toNat++fnA A I P l n k).length:Int) < 30000
 fl:fnA A I P l n k=aqF n l k.toNat
 kk:0≤k∧k < (l.length:Int)
theorem ap0 {u v w:Pt} {n:List Pt} (hn:(n.length:Int) < 1000):((f7.rim u v w n).length:Int) < 10000:=by
 have hc:(ZX u v w).length≤4:=by
  unfold ZX afA
  simp only[List.length_append]
  repeat' split
  all_goals simp
 have h: ∀ k,(acX (fun a b=>aaS a b n) (ZX u v w) k).length≤k*(n.length+1):=fun k=>by
  induction k with
  | zero=>simp[acX]
  | succ k ih=>
   have hb:=aaU (pC (ZX u v w) k) (pC (ZX u v w) (((k:Int)+1) % aY (ZX u v w))) n
   show(((acX (fun a b=>aaS a b n) (ZX u v w) k++[pC (ZX u v w) k])++aaS _ _ n)).length≤_
   rw[List.length_append,List.length_append,List.length_singleton,Nat.succ_mul]
   omega
 have h2:=h (ZX u v w).length
 have h3:(ZX u v w).length*(n.length+1)≤4*(n.length+1):=Nat.mul_le_mul_right _ hc
 show((acX (fun a b=>aaS a b n) (ZX u v w) (ZX u v w).length).length:Int) < 10000
 omega
theorem asT {n:List Pt} {l:List PcR} {k:Int} {M:List T3} {Q:List Pt} (hn:(n.length:Int) < 1000) (ht:((am3 n l l.length).length:Int) < 30000) (h:BoJ n l k M Q) (A:Alg) (hA:A=aA) (I:SP) (hI:I=f7) (P:SNd) (hP:P=dT) (hb:A.cmp .lss k (A.len l)=true):BoS A I P n l k M Q:=by
 subst hA hI hP
 obtain⟨k0,k1,e,q⟩:=h
 have hb:k < (l.length:Int):=of_decide_eq_true hb
 have fl:fnA aA f7 dT l n k=aqF n l k.toNat:=rfl
 have hm:=anE n l (k.toNat+1) (l.length - (k.toNat+1))
 rw[show k.toNat+1+(l.length - (k.toNat+1))=l.length by omega] at hm
 refine⟨bJ _ rfl _ _ k0,bH _ rfl _ _ hn,bH _ rfl _ _ (ap0 hn),⟨Int.le_refl _,Int.natCast_nonneg _,?_,q⟩,?_,fl,k0,hb⟩
 ·rw[show(0:Int).toNat=0 from rfl,List.take_zero,List.append_nil];exact e
 ·have:(am3 n l k.toNat++fnA aA f7 dT l n k)=am3 n l (k.toNat+1):=by rw[fl];rfl
  rw[this];omega
def an4 (A:Alg) (F:List T3) (j:Int):T3:=A.get F j (⟨⟨⟨false,A.zD⟩,⟨false,A.zD⟩⟩,⟨⟨false,A.zD⟩,⟨false,A.zD⟩⟩⟩,⟨⟨⟨false,A.zD⟩,⟨false,A.zD⟩⟩,⟨⟨false,A.zD⟩,⟨false,A.zD⟩⟩⟩,⟨⟨⟨false,A.zD⟩,⟨false,A.zD⟩⟩,⟨⟨false,A.zD⟩,⟨false,A.zD⟩⟩⟩,())
def elF (A:Alg) (F:List T3) (j:Int):T3:=((an4 A F j).1,(an4 A F j).2.1,(an4 A F j).2.2.1,())
def ptF (A:Alg) (F:List T3) (j:Int):List Pt:=A.sub [(an4 A F j).1,(an4 A F j).2.1,(an4 A F j).2.2.1] 0 3
structure BiS (A:Alg) (n:List Pt) (l:List PcR) (k:Int) (F:List T3) (j:Int) (M:List T3) (Q:List Pt):Prop where
 o1:A.cmp .leq 0 j=true
 c1:A.cmp .leq (A.iadd (A.len M) (A.len [elF A F j])) 1000000=true
 c2:A.cmp .leq (A.iadd (A.len Q) (A.len (ptF A F j))) 1000000=true
 z0:A.cmp .leq 0 0=true
 z1:A.cmp .leq 0 3=true
 z2:A.cmp .leq 3 3=true
 nx:BiJ n l k F (j+1) (A.app M [elF A F j]) (A.app Q (ptF A F j))
 ad:A.bin .add .i64 j 1=j+1
 ms:((F.length:Int) - (j+1)).toNat < ((F.length:Int) - j).toNat
theorem asS {n:List Pt} {l:List PcR} {k:Int} {F:List T3} {j:Int} {M:List T3} {Q:List Pt} (ht:((am3 n l k.toNat++F).length:Int) < 30000) (h:BiJ n l k F j M Q) (A:Alg) (hA:A=aA) (hb:A.cmp .lss j (A.len F)=true):BiS A n l k F j M Q:=by
 subst hA
 obtain⟨j0,j1,e,q⟩:=h
 have hb:j < (F.length:Int):=of_decide_eq_true hb
 have hj:j.toNat < F.length:=by omega
 have hM:(M.length:Int) < 30000:=by
  rw[e,List.length_append,List.length_take]
  rw[List.length_append] at ht
  omega
 have hFl:(F.length:Int) < 30000:=by rw[List.length_append] at ht;omega
 have hQ:(Q.length:Int)=3*M.length:=by rw[q,anA];omega
 have eg:an4 aA F j=F[j.toNat]:=by
  show F.getD j.toNat _=_
  rw[List.getD_eq_getElem?_getD,List.getElem?_eq_getElem hj];rfl
 have eE:elF aA F j=F[j.toNat]:=by unfold elF;rw[eg]
 have eP:ptF aA F j=[F[j.toNat].1,F[j.toNat].2.1,F[j.toNat].2.2.1]:=by unfold ptF;rw[eg];rfl
 have ej:(j+1).toNat=j.toNat+1:=by omega
 have eM:am3 n l k.toNat++F.take (j.toNat+1)=M++[F[j.toNat]]:=by
  rw[e,List.take_succ_eq_append_getElem hj,List.append_assoc]
 refine⟨bJ _ rfl _ _ j0,?_,?_,bJ _ rfl _ _ (by decide),bJ _ rfl _ _ (by decide),bJ _ rfl _ _ (by decide),⟨by omega,by omega,?_,?_⟩,by show IntKind.i64.wrap _=_;rw[IntKind.wrap_i64];omega,by omega⟩
 ·have hs:(M.length:Int)+1≤1000000:=by omega
  exact bJ _ rfl _ _ hs
 ·rw[eP]
  have hs:(Q.length:Int)+3≤1000000:=by omega
  exact bJ _ rfl _ _ hs
 ·rw[ej,eM,eE];rfl
 ·rw[eE,eP,q]
  show anJ M++_=anJ (M++_)
  rw[aoY];rfl
structure BiE (A:Alg) (n:List Pt) (l:List PcR) (k:Int) (M:List T3) (Q:List Pt):Prop where
 nx:BoJ n l (k+1) M Q
 ad:A.bin .add .i64 k 1=k+1
 ms:((l.length:Int) - (k+1)).toNat < ((l.length:Int) - k).toNat
theorem asR {n:List Pt} {l:List PcR} {k:Int} {F:List T3} {j:Int} {M:List T3} {Q:List Pt} (hl:(l.length:Int) < 10000) (kk:0≤k∧k < (l.length:Int)) (fl:F=aqF n l k.toNat) (h:BiJ n l k F j M Q) (A:Alg) (hA:A=aA) (hb:A.cmp .lss j (A.len F)=false):BiE A n l k M Q:=by
 subst hA
 obtain⟨j0,j1,e,q⟩:=h
 have hb: ¬ j < (F.length:Int):=of_decide_eq_false hb
 refine⟨⟨by omega,by omega,?_,q⟩,by show IntKind.i64.wrap _=_;rw[IntKind.wrap_i64];omega,by omega⟩
 rw[e,show(k+1).toNat=k.toNat+1 by omega,am3, ← fl,List.take_of_length_le (by omega)]
structure TrJ (p:List Pt) (M:List T3) (i:Int) (T:List I3):Prop where
 i0:0≤i
 i1:i≤(M.length:Int)
 e:T=(M.map (ap5 p)).take i.toNat
def trA (A:Alg) (I:SP) (P:SNd) (p:List Pt) (M:List T3) (i:Int):I3:=P.turned (I.find p (an4 A M i).1) (I.find p (an4 A M i).2.1) (I.find p (an4 A M i).2.2.1)
structure TrS (A:Alg) (I:SP) (P:SNd) (p:List Pt) (M:List T3) (i:Int) (T:List I3):Prop where
 o1:A.cmp .leq 0 i=true
 c1:A.cmp .leq (A.iadd (A.len T) (A.len [(((trA A I P p M i).1,(trA A I P p M i).2.1,(trA A I P p M i).2.2):I3)])) 1000000=true
 nx:TrJ p M (i+1) (A.app T [(((trA A I P p M i).1,(trA A I P p M i).2.1,(trA A I P p M i).2.2):I3)])
 ad:A.bin .add .i64 i 1=i+1
 ms:((M.length:Int) - (i+1)).toNat < ((M.length:Int) - i).toNat
theorem as8 {p:List Pt} {M:List T3} {i:Int} {T:List I3} (hl:(M.length:Int) < 30000) (h:TrJ p M i T) (A:Alg) (hA:A=aA) (I:SP) (hI:I=f7) (P:SNd) (hP:P=dT) (hb:A.cmp .lss i (A.len M)=true):TrS A I P p M i T:=by
 subst hA hI hP
 obtain⟨i0,i1,e⟩:=h
 have hb:i < (M.length:Int):=of_decide_eq_true hb
 have hi:i.toNat < M.length:=by omega
 have hT:(T.length:Int) < 30000:=by rw[e,List.length_take,List.length_map];omega
 have eg:an4 aA M i=M[i.toNat]:=by
  show M.getD i.toNat _=_
  rw[List.getD_eq_getElem?_getD,List.getElem?_eq_getElem hi];rfl
 have et:trA aA f7 dT p M i=ap5 p M[i.toNat]:=by unfold trA;rw[eg];rfl
 refine⟨bJ _ rfl _ _ i0,?_,⟨by omega,by omega,?_⟩,by show IntKind.i64.wrap _=_;rw[IntKind.wrap_i64];omega,by omega⟩
 ·have hs:(T.length:Int)+1≤1000000:=by omega
  exact bJ _ rfl _ _ hs
 ·rw[et,show(i+1).toNat=i.toNat+1 by omega,List.take_succ_eq_append_getElem (by rw[List.length_map];exact hi), ← e,List.getElem_map]
  rfl
structure TrE (A:Alg) (P:SNd) (p:List Pt) (M:List T3) (T:List I3):Prop where
 o1:A.cmp .lss (A.len T) 1000000=true
 e:T=P.tris p M
theorem as7 {p:List Pt} {M:List T3} {i:Int} {T:List I3} (hl:(M.length:Int) < 30000) (h:TrJ p M i T) (A:Alg) (hA:A=aA) (P:SNd) (hP:P=dT) (hb:A.cmp .lss i (A.len M)=false):TrE A P p M T:=by
 subst hA hP
 obtain⟨i0,i1,e⟩:=h
 have hb: ¬ i < (M.length:Int):=of_decide_eq_false hb
 have e2:T=M.map (ap5 p):=by rw[e,List.take_of_length_le (by rw[List.length_map];omega)]
 have hT:(T.length:Int) < 1000000:=by rw[e2,List.length_map];omega
 exact⟨bH _ rfl _ _ hT,e2⟩
def nF4 (A:Alg) (I:SP) (P:SNd):List (Nat×bU):=(44,aR [.a (.s (.row [.int .i64, .int .i64, .int .i64, .P, .P, .P]))] A (ajT A I P)) :: (45,aR [.a .v, .a (.s .pt)] A (ae8 A I)) :: (15,aR [.a .v, .a (.s .pt)] A (aoN A P)) :: (46,aR [.a (.s .pt)] A (ajA A I)) :: (48,aR [.a (.s .pt), .a .v] A (ajG A I)) :: (47,aC [.v, .v, .v] A (apR P)) :: (49,(aiW 50 (apQ A P))) :: ([])
theorem aoP:COK Tryz.prog (aN (nF4 aA f7 dT)):=aB ajK (aB adB (aB an8 (aB aiL (aB aiT (aB aoT (aB an9 (bC)))))))
theorem anK:aJ Tryz.prog 19 (aR [.a (.s (.row [.int .i64, .int .i64, .int .i64, .P, .P, .P]))] aA (an2 aA f7 dT)):=by
 refine aW (un:=⟨false,some [0,2,3,4,5,7,9,10,12,15,16,17,18,27,28,29,30,45,46,47,48]⟩) tok aoP aL (fn:=Tryz.f19) ?_
 intro w Wr args bs r hg ho hWr A L k hA hL hk
 obtain⟨I,hI⟩:=exE f7
 obtain⟨P,hP⟩:=exE dT
 try rw[← hI]
 try rw[← hP]
 try rw[← hA]
 unfold an2 at hg
 split at hg <;> cases hg
 rename_i l
 have o1:=(aG ho).1
 have o2:=(aG (aG ho).2).1
 have o3:=(aG (aG (aG ho).2).2).1
 have h1:(l.length:Int) < 10000:=akR o1
 have h2:((f7.srt (dT.cors l)).length:Int) < 1000:=akR o2
 have h3:((dT.all (f7.srt (dT.cors l)) l).length:Int) < 30000:=akR o3
 rw[← hA] at o1
 clear ho o2 o3
 rw[← hI, ← hP] at h2 h3
 have hN: ∃ N,N=I.srt (P.cors l):=⟨_,rfl⟩
 obtain⟨N,hN⟩:=hN
 rw[← hN] at h2 h3
 have i0:BoJ N l 0 [] []:=⟨Int.le_refl _,Int.natCast_nonneg _,rfl,rfl⟩
 cbv
 repeat' with_reducible first | (intro hb;cbv) | refine UM ?_ ?_
 all_goals first | exact o1 | skip
 refine hL _ _ _ (gM (un:=⟨false,some [0,2,3,4,5,7,9,10,12,15,16,17,18,27,28,29,30,45,46,47,48]⟩) tok aoP aL 1 (fun i hi=>by have:=hWr i hi;simp at this;show i < 1;omega) (fun p:Int×List T3×List Pt=>⟨[(17,⟨[], .c (.s (.int .i64 p.1))⟩),(16,⟨[], .c (.s (.int .i64 (A.len l)))⟩),(15,⟨[], .c (.s (.hs 0))⟩),(5,⟨[], .c (.s (.hs 4))⟩),(4,⟨[], .c (.s (.hs 3))⟩),(3,⟨[], .c (.s (.hs 2))⟩),(2,⟨[], .c (.s (.hp 1 0))⟩),(0,⟨[], .c (.s (.hs 0))⟩)],[(0, .vec false (.row [.int .i64, .int .i64, .int .i64, .P, .P, .P]) l),(1, .fix true [.s .nils, .s .nils, .s .nils]),(2, .vec true .pt N),(3, .vec true (.row [.P, .P, .P]) p.2.1),(4, .vec true .pt p.2.2)],5⟩)
  (fun p=>BoJ N l p.1 p.2.1 p.2.2) (fun p=>((l.length:Int) - p.1).toNat) (0,[],[]) i0 [(3, .nils),(4, .nils)] ?_ (fun _=>Nat.le_of_ble_eq_true rfl) ?_)
 ·subst hN
  exact⟨⟨⟨rfl,rfl,fun _=>rfl⟩,⟨rfl,rfl,fun _=>rfl⟩,⟨rfl,rfl,fun _=>rfl⟩,⟨rfl,rfl,fun _=>rfl⟩,⟨rfl,rfl,fun _=>rfl⟩,⟨rfl,rfl,fun _=>rfl⟩,⟨rfl,rfl,fun _=>rfl⟩,⟨rfl,rfl,fun _=>rfl⟩,trivial⟩,⟨⟨rfl,rfl,rfl,rfl,fun h=>h⟩,⟨rfl,rfl,fun _=>rfl⟩,⟨rfl,rfl,rfl,rfl,fun h=>h⟩,rfl,rfl,trivial⟩,rfl,rfl,rfl,rfl⟩
 clear i0
 rintro⟨k,M,Q⟩ hJ A2 L2 k2 hA2 hL2 hnext hexit hret
 have eA:A2=A:=hA2.trans hA.symm
 subst eA
 have hJ:BoJ N l k M Q:=hJ
 have st:=fun hb=>asT h2 (by rw[hP] at h3;exact h3) hJ A2 hA2 I hI P hP hb
 rw[← hA2, ← hI, ← hP]
 cbv
 repeat' with_reducible first | (intro hb;cbv) | refine UM ?_ ?_
 all_goals first | (have st:=st (by assumption);first | exact st.o1 | exact st.n1 | exact st.r1) | assumption | skip
 ·have so:=st (by assumption)
  clear st
  have hF: ∃ F,F=fnA A2 I P l N k:=⟨_,rfl⟩
  obtain⟨F,hF⟩:=hF
  have j0:=so.i0
  have tot:=so.tot
  have fl:=so.fl
  have kk:=so.kk
  clear so
  rw[← hF] at j0 tot fl
  refine hL2 _ _ _ (gM (un:=⟨false,some [0,2,3,4,5,7,9,10,12,15,16,17,18,27,28,29,30,45,46,47,48]⟩) tok aoP aL 1 (fun i hi=>by have:=hWr i hi;simp at this;show i < 1;omega) (fun p:Int×List T3×List Pt=>⟨[(29,⟨[], .c (.s (.int .i64 p.1))⟩),(28,⟨[], .c (.s (.int .i64 (A2.len F)))⟩),(27,⟨[], .c (.s (.hs 7))⟩),(17,⟨[], .c (.s (.int .i64 k))⟩),(16,⟨[], .c (.s (.int .i64 (A2.len l)))⟩),(15,⟨[], .c (.s (.hs 0))⟩),(5,⟨[], .c (.s (.hs 4))⟩),(4,⟨[], .c (.s (.hs 3))⟩),(3,⟨[], .c (.s (.hs 2))⟩),(2,⟨[], .c (.s (.hp 1 0))⟩),(0,⟨[], .c (.s (.hs 0))⟩)],[(7, .vec true (.row [.P, .P, .P]) F),(0, .vec false (.row [.int .i64, .int .i64, .int .i64, .P, .P, .P]) l),(1, .fix true [.s .nils, .s .nils, .s .nils]),(2, .vec true .pt N),(3, .vec true (.row [.P, .P, .P]) p.2.1),(4, .vec true .pt p.2.2)],8⟩)
   (fun p=>BiJ N l k F p.1 p.2.1 p.2.2) (fun p=>((F.length:Int) - p.1).toNat) (0,M,Q) j0 [] ?_ (fun _=>Nat.le_of_ble_eq_true rfl) ?_)
  ·subst hF
   exact⟨⟨⟨rfl,rfl,fun _=>rfl⟩,⟨rfl,rfl,fun _=>rfl⟩,⟨rfl,rfl,fun _=>rfl⟩,⟨rfl,rfl,fun _=>rfl⟩,⟨rfl,rfl,fun _=>rfl⟩,⟨rfl,rfl,fun _=>rfl⟩,⟨rfl,rfl,fun _=>rfl⟩,⟨rfl,rfl,fun _=>rfl⟩,⟨rfl,rfl,fun _=>rfl⟩,⟨rfl,rfl,fun _=>rfl⟩,⟨rfl,rfl,fun _=>rfl⟩,trivial⟩,⟨⟨rfl,rfl,rfl,rfl,fun h=>h⟩,⟨rfl,rfl,rfl,rfl,fun h=>h⟩,⟨rfl,rfl,fun _=>rfl⟩,⟨rfl,rfl,rfl,rfl,fun h=>h⟩,⟨rfl,rfl,rfl,rfl,fun h=>h⟩,⟨rfl,rfl,rfl,rfl,fun h=>h⟩,trivial⟩,rfl,rfl,rfl,rfl⟩
  clear j0
  rintro⟨j,M',Q'⟩ hJ3 A3 L3 k3 hA3 hL3 hnext3 hexit3 hret3
  have eA:A3=A2:=hA3.trans hA2.symm
  subst eA
  have hJ3:BiJ N l k F j M' Q':=hJ3
  have st3:=fun hb=>asS tot hJ3 A3 hA3 hb
  have en3:=fun hb=>asR h1 kk fl hJ3 A3 hA3 hb
  clear hJ3
  rw[← hA3, ← hI, ← hP]
  cbv
  repeat' with_reducible first | (intro hb;cbv) | refine UM ?_ ?_
  all_goals first | (have st3:=st3 (by assumption);first | exact st3.o1 | exact st3.c1 | exact st3.c2 | exact st3.z0 | exact st3.z1 | exact st3.z2) | assumption | skip
  ·have st3:=st3 (by assumption)
   have nx:=st3.nx
   have ems:=st3.ms
   have ead:=st3.ad
   subst hA3
   refine hnext3 _ (j+1,_,_) [(3, .hs 10),(4, .hs 11)] nx ems ?_
   exact⟨⟨⟨rfl,rfl,leI ead⟩,⟨rfl,rfl,fun _=>rfl⟩,⟨rfl,rfl,fun _=>rfl⟩,⟨rfl,rfl,fun _=>rfl⟩,⟨rfl,rfl,fun _=>rfl⟩,⟨rfl,rfl,fun _=>rfl⟩,⟨rfl,rfl,fun _=>rfl⟩,⟨rfl,rfl,fun _=>rfl⟩,⟨rfl,rfl,fun _=>rfl⟩,⟨rfl,rfl,fun _=>rfl⟩,⟨rfl,rfl,fun _=>rfl⟩,trivial⟩,⟨⟨rfl,rfl,rfl,rfl,fun h=>h⟩,⟨rfl,rfl,rfl,rfl,fun h=>h⟩,⟨rfl,rfl,fun _=>rfl⟩,⟨rfl,rfl,rfl,rfl,fun h=>h⟩,⟨rfl,rfl,rfl,rfl,fun h=>h⟩,⟨rfl,rfl,rfl,rfl,fun h=>h⟩,trivial⟩,rfl,rfl,rfl,rfl⟩
  ·have en3:=en3 (by assumption)
   apply hexit3
   clear hexit3 hnext3 hret3 st3
   cbv
   have nx:=en3.nx
   have ems:=en3.ms
   have ead:=en3.ad
   subst hA3
   refine hnext _ (k+1,M',Q') [] nx ems ?_
   exact⟨⟨⟨rfl,rfl,leI ead⟩,⟨rfl,rfl,fun _=>rfl⟩,⟨rfl,rfl,fun _=>rfl⟩,⟨rfl,rfl,fun _=>rfl⟩,⟨rfl,rfl,fun _=>rfl⟩,⟨rfl,rfl,fun _=>rfl⟩,⟨rfl,rfl,fun _=>rfl⟩,⟨rfl,rfl,fun _=>rfl⟩,trivial⟩,⟨⟨rfl,rfl,rfl,rfl,fun h=>h⟩,⟨rfl,rfl,fun _=>rfl⟩,⟨rfl,rfl,rfl,rfl,fun h=>h⟩,⟨rfl,rfl,rfl,rfl,fun h=>h⟩,⟨rfl,rfl,rfl,rfl,fun h=>h⟩,trivial⟩,rfl,rfl,rfl,rfl⟩
 ·have en:M=P.all N l∧Q=P.pts M:=by
   subst hA2 hP
   have hb: ¬ k < (l.length:Int):=of_decide_eq_false hb
   have h5:=hJ.k1
   have e1:=hJ.e
   rw[show k.toNat=l.length by omega] at e1
   exact⟨e1,hJ.q⟩
  clear hJ
  apply hexit
  clear hexit hnext hret st
  have hp:=en.2
  have he:=en.1
  clear en
  have hm:(M.length:Int) < 30000:=by rw[he];exact h3
  have hq0:(Q.length:Int) < 100000:=by
   rw[hp,hP,show dT.pts M=anJ M from rfl,anA];omega
  have hq:A2.cmp .lss (A2.len Q) 100000=true:=by subst hA2;exact bH _ rfl _ _ hq0
  have hs:A2.cmp .lss (A2.len (I.srt Q)) 1000000=true:=by
   subst hA2 hI
   have h6:=acO Q Q.length
   have h7:((f7.srt Q).length:Int) < 1000000:=by show((ac3 Q Q.length).length:Int) < 1000000;omega
   exact bH _ rfl _ _ h7
  cbv
  repeat' with_reducible first | (intro hb;cbv) | refine UM ?_ ?_
  all_goals first | exact hq | skip
  have j0:TrJ (I.srt Q) M 0 []:=⟨Int.le_refl _,Int.natCast_nonneg _,rfl⟩
  refine hL _ _ _ (gM (un:=⟨false,some [0,2,3,4,5,7,9,10,12,15,16,17,18,27,28,29,30,45,46,47,48]⟩) tok aoP aL 1 (fun i hi=>by have:=hWr i hi;simp at this;show i < 1;omega) (fun q:Int×List I3=>⟨[(47,⟨[], .c (.s (.int .i64 q.1))⟩),(46,⟨[], .c (.s (.int .i64 (A2.len M)))⟩),(45,⟨[], .c (.s (.hs 3))⟩),(10,⟨[], .c (.s (.hp 6 0))⟩),(2,⟨[], .c (.s (.hp 1 0))⟩)],[(6, .fix true [.s (.hs 5), .s (.hs 7), .s .nils]),(5, .vec true .pt (I.srt Q)),(1, .fix true [.s .nils, .s .nils, .s .nils]),(3, .vec true (.row [.P, .P, .P]) M),(7, .vec true .i3 q.2)],8⟩)
   (fun q=>TrJ (I.srt Q) M q.1 q.2) (fun q=>((M.length:Int) - q.1).toNat) (0,[]) j0 [(7, .nils)] ?_ (fun _=>Nat.le_of_ble_eq_true rfl) ?_)
  ·exact⟨⟨⟨rfl,rfl,fun _=>rfl⟩,⟨rfl,rfl,fun _=>rfl⟩,⟨rfl,rfl,fun _=>rfl⟩,⟨rfl,rfl,fun _=>rfl⟩,⟨rfl,rfl,fun _=>rfl⟩,trivial⟩,⟨⟨rfl,rfl,fun _=>rfl⟩,⟨rfl,rfl,rfl,rfl,fun h=>h⟩,⟨rfl,rfl,fun _=>rfl⟩,⟨rfl,rfl,rfl,rfl,fun h=>h⟩,rfl,trivial⟩,rfl,rfl,rfl,rfl⟩
  clear j0
  rintro⟨i,T⟩ hJ A3 L3 k3 hA3 hL3 hnext hexit hret
  have eA:A3=A2:=hA3.trans hA2.symm
  subst eA
  have hJ:TrJ (I.srt Q) M i T:=hJ
  have st:=fun hb=>as8 hm hJ A3 hA3 I hI P hP hb
  have en:=fun hb=>as7 hm hJ A3 hA3 P hP hb
  clear hJ
  rw[← hA3, ← hI, ← hP]
  with_reducible refine fA fun kk hn hx=>?_
  cbv
  with_reducible refine hn _ ?_
  clear hn hx kk
  with_reducible refine fA fun kk hn hx=>?_
  cbv
  repeat' with_reducible first | (intro hb;cbv) | refine UM ?_ ?_
  rotate_left
  ·refine hx (.exit 4) _ (fun h=>by cases h) ?_
   clear hn hx kk
   cbv
   have en:=en hb
   apply hexit
   clear hexit hnext hret st
   cbv
   repeat' with_reducible first | (intro hb;cbv) | refine UM ?_ ?_
   all_goals first | exact en.o1 | skip
   have e1:=en.e
   have eP:I.srt Q=I.srt (P.pts (P.all (I.srt (P.cors l)) l)):=by rw[hp,he,hN]
   have eT:P.srt3 T=P.srt3 (P.tris (I.srt (P.pts (P.all (I.srt (P.cors l)) l))) (P.all (I.srt (P.cors l)) l)):=by rw[e1,hp,he,hN]
   subst hI hP
   exact hk _ _ (bW.two (t:=5) (u:=7) rfl rfl (Nat.le_of_ble_eq_true rfl) (Nat.le_of_ble_eq_true rfl) (by decide) (fun ρ=>rfl) rfl (.vec eP) rfl (.vec eT))
  with_reducible refine hn _ ?_
  clear hn hx kk
  have st:=st hb
  clear en
  with_reducible refine fA fun k4 hn4 hx4=>?_
  with_reducible refine ZM fun k5 n5 e5 x5 r5=>?_
  with_reducible refine fA fun kk hn hx=>?_
  cbv
  repeat' with_reducible first | (intro hb;cbv) | refine UM ?_ ?_
  all_goals first | exact st.o1 | assumption | skip
  with_reducible refine hn _ ?_
  clear hn hx kk
  cbv
  repeat' with_reducible first | (intro hb;cbv) | refine UM ?_ ?_
  all_goals first | exact hs | exact st.c1 | skip
  refine n5 _ ?_
  refine hn4 _ ?_
  clear n5 e5 x5 r5 hn4 hx4
  cbv
  have nx:=st.nx
  have ems:=st.ms
  have ead:=st.ad
  subst hA3
  refine hnext _ (i+1,_) [(7, .hs 10)] nx ems ?_
  exact⟨⟨⟨rfl,rfl,leI ead⟩,⟨rfl,rfl,fun _=>rfl⟩,⟨rfl,rfl,fun _=>rfl⟩,⟨rfl,rfl,fun _=>rfl⟩,⟨rfl,rfl,fun _=>rfl⟩,trivial⟩,⟨⟨rfl,rfl,fun _=>rfl⟩,⟨rfl,rfl,rfl,rfl,fun h=>h⟩,⟨rfl,rfl,fun _=>rfl⟩,⟨rfl,rfl,rfl,rfl,fun h=>h⟩,⟨rfl,rfl,rfl,rfl,fun h=>h⟩,trivial⟩,rfl,rfl,rfl,rfl⟩
end Go.Eng
