
import Derived.Test.YtbfknjpggfkgjaaGreatYCH1
import Derived.Test.YtbfknjpggfkgjaaGreatSpecQ2
import Derived.Test.YtbfknjpggfkgjaaGreatYCTA
import Derived.Test.YtbfknjpggfkgjaaGreatYCH6
set_option linter.all false
set_option exponentiation.threshold 3000
set_option maxRecDepth 100000
set_option maxHeartbeats 2000000
namespace Go.Eng
open Go.Proofs
def nA0 (A:Alg) (H:SH):List (Nat×bU):=(128,aC [.v, .v] A (CQ H)) :: ([])
theorem alN:COK Tryz.prog (aN (nA0 aA bD)):=aB yJ (bC)
theorem ajL:aJ Tryz.prog 82 (aC [.v, .v] aA (adI bD)):=by
 refine aH (un:=⟨false,some [0,1,2,3,4,5]⟩) tok alN aL (fn:=Tryz.f82) ?_
 intro w Wr args bs r hg ho hWr A L k hA hL hk
 obtain⟨H,hH⟩:=exE bD
 try rw[← hH]
 try rw[← hA]
 unfold adI at hg
 split at hg <;> cases hg
 rename_i x y
 cbv
 repeat' with_reducible first | (intro hb;cbv) | refine UM ?_ ?_
 exact hk _ _ (bE.pure rfl fun ρ=>by subst hH;rfl)
def aiJ:Go.Shelf.Ren:=⟨fun | 6=>81 | 15=>86 | 14=>127 | 28=>137 | 29=>138 | 20=>166 | 21=>167 | 22=>168 | 23=>169 | 24=>170 | 25=>171 | 26=>172 | 27=>173 | 46=>198 | 47=>176 | 48=>177 | 49=>199 | 50=>200 | 57=>214 | n=>n,fun | 22=>24 | 24=>51 | 25=>75 | 3=>3 | 39=>142 | 0=>0 | 53=>41 | 55=>147 | 4=>4 | 46=>191 | 45=>190 | 50=>76 | 5=>5 | 9=>9 | 66=>224 | 70=>228 | 76=>247 | 77=>125 | n=>n,fun n=>n⟩
theorem ak8:SlLaysF0.n6 Tryz.prog aiJ:=⟨by kernel_rfl,
 ⟨Tryz.f81.name,by kernel_rfl,Tryz.func81.trans (congrArg some (by kernel_rfl))⟩,
 ⟨Tryz.f127.name,by kernel_rfl,Tryz.func127.trans (congrArg some (by kernel_rfl))⟩,
 Tryz.func86.trans (congrArg some (by kernel_rfl)),
 ⟨Tryz.f166.name,by kernel_rfl,Tryz.func166.trans (congrArg some (by kernel_rfl))⟩,
 ⟨Tryz.f167.name,by kernel_rfl,Tryz.func167.trans (congrArg some (by kernel_rfl))⟩,
 ⟨Tryz.f168.name,by kernel_rfl,Tryz.func168.trans (congrArg some (by kernel_rfl))⟩,
 ⟨Tryz.f169.name,by kernel_rfl,Tryz.func169.trans (congrArg some (by kernel_rfl))⟩,
 ⟨Tryz.f170.name,by kernel_rfl,Tryz.func170.trans (congrArg some (by kernel_rfl))⟩,
 ⟨Tryz.f171.name,by kernel_rfl,Tryz.func171.trans (congrArg some (by kernel_rfl))⟩,
 ⟨Tryz.f172.name,by kernel_rfl,Tryz.func172.trans (congrArg some (by kernel_rfl))⟩,
 ⟨Tryz.f173.name,by kernel_rfl,Tryz.func173.trans (congrArg some (by kernel_rfl))⟩,
 Tryz.func137.trans (congrArg some (by kernel_rfl)),
 Tryz.func138.trans (congrArg some (by kernel_rfl)),
 ⟨Tryz.f198.name,by kernel_rfl,Tryz.func198.trans (congrArg some (by kernel_rfl))⟩,
 Tryz.func176.trans (congrArg some (by kernel_rfl)),
 Tryz.func177.trans (congrArg some (by kernel_rfl)),
 ⟨Tryz.f199.name,by kernel_rfl,Tryz.func199.trans (congrArg some (by kernel_rfl))⟩,
 ⟨Tryz.f200.name,by kernel_rfl,Tryz.func200.trans (congrArg some (by kernel_rfl))⟩,
 ⟨Tryz.f214.name,by kernel_rfl,Tryz.func214.trans (congrArg some (by kernel_rfl))⟩,
 Tryz.underlying0,
 Tryz.isAgg0,
 Tryz.sizeOf0,
 Tryz.zeroValue0,
 Tryz.underlying3,
 Tryz.isAgg3,
 Tryz.sizeOf3,
 Tryz.zeroValue3,
 Tryz.underlying4,
 Tryz.isAgg4,
 Tryz.sizeOf4,
 Tryz.zeroValue4,
 Tryz.underlying5,
 Tryz.isAgg5,
 Tryz.sizeOf5,
 Tryz.zeroValue5,
 Tryz.underlying9,
 Tryz.isAgg9,
 Tryz.sizeOf9,
 Tryz.zeroValue9,
 Tryz.underlying24,
 Tryz.isAgg24,
 Tryz.sizeOf24,
 Tryz.zeroValue24,
 Tryz.underlying75,
 Tryz.isAgg75,
 Tryz.sizeOf75,
 Tryz.zeroValue75,
 Tryz.underlying142,
 Tryz.isAgg142,
 Tryz.sizeOf142,
 Tryz.zeroValue142,
 Tryz.underlying190,
 Tryz.isAgg190,
 Tryz.sizeOf190,
 Tryz.zeroValue190,
 Tryz.underlying191,
 Tryz.isAgg191,
 Tryz.sizeOf191,
 Tryz.zeroValue191,
 Tryz.underlying76,
 Tryz.isAgg76,
 Tryz.sizeOf76,
 Tryz.zeroValue76,
 Tryz.underlying41,
 Tryz.isAgg41,
 Tryz.sizeOf41,
 Tryz.zeroValue41,
 Tryz.underlying147,
 Tryz.isAgg147,
 Tryz.sizeOf147,
 Tryz.zeroValue147,
 Tryz.underlying224,
 Tryz.isAgg224,
 Tryz.sizeOf224,
 Tryz.zeroValue224,
 Tryz.underlying228,
 Tryz.isAgg228,
 Tryz.sizeOf228,
 Tryz.zeroValue228,
 Tryz.underlying247,
 Tryz.isAgg247,
 Tryz.sizeOf247,
 Tryz.zeroValue247,
 Tryz.underlying125,
 Tryz.isAgg125,
 Tryz.sizeOf125,
 Tryz.zeroValue125⟩
theorem aj1: ∀ w,(isAgg (aiJ.t 24)).run Tryz.prog w= .ok true w:=Tryz.isAgg51
theorem aj2: ∀ w,(Go.sizeOf (aiJ.t 24)).run Tryz.prog w= .ok 132 w:=Tryz.sizeOf51
def ajH (A:Alg) (H:SH) (P:SNd):Blk→Option (List Bool×Blk)
 | .vec true .pt l=>some ([A.cmp .lss (A.len l) 1000000,H.all l], .vec true .pt (P.srt l))
 | _=>none
theorem ajZ:aJ Tryz.prog 81 (aiW 82 (ajH aA bD dT)):=
 ai2 ak8 .pt aj1 aj2 dJ (bD.at_ 0 0) (by decide +kernel) bD.cmp ak9 alA 82 _ ajL (fun x y _ _=>⟨[],rfl,fun b hb=>by cases hb⟩) _ (fun b ob b' h=>by
  unfold ajH at h
  split at h
  ·rename_i l
   simp only[Option.some.injEq,Prod.mk.injEq] at h
   obtain⟨rfl,rfl⟩:=h
   refine⟨l,rfl,rfl,fun ho=>⟨fun x hx=>?_,?_⟩⟩
   ·have h:=ho _ (List.mem_cons_of_mem _ (List.mem_cons_self ..))
    exact List.all_eq_true.1 h x hx
   ·have h:=ho _ (List.mem_cons_self ..)
    have h:=acT h
    unfold aY at h
    omega
  ·cases h)
def alM (A:Alg) (P:SNd):List CV→List Blk→Option LW
 | [.s (.hs 0)],[.vec true .pt l]=>some ⟨[A.cmp .lss (A.len l) 1000000], .c (.s (.hs 1)),[.vec true .pt (P.cmpt l)],[.gone]⟩
 | _,_=>none
structure CpS (A:Alg) (l:List Pt) (q:Int):Prop where
 o1:A.cmp .leq 0 q=true
 o2:A.cmp .leq 0 (A.bin .sub .i64 q 1)=true
 o3:A.cmp .lss (A.bin .sub .i64 q 1) (A.len l)=true
 o4:A.cmp .leq q (A.len l)=true
 o5:A.cmp .leq (A.len l) (A.len l)=true
 ad:A.bin .add .i64 q 1=q+1
 ms:((l.length:Int) - (q+1)).toNat < ((l.length:Int) - q).toNat
 lt:q < (l.length:Int)
 nx:A.eqP (dP A l q) (dP A l (A.bin .sub .i64 q 1))=false→Cp1 zPt l (q+1)
 eq:A.eqP (dP A l q) (dP A l (A.bin .sub .i64 q 1))=true→Cp2 zPt l q q 1 l
theorem gA (l:List Pt) (k:Int):dP aA l k=gD zPt l k:=rfl
theorem al5 {l:List Pt} {q:Int} (hl:aY l < 1000000) (h:Cp1 zPt l q) (A:Alg) (hA:A=aA) (hb:A.cmp .lss q (A.len l)=true):CpS A l q:=by
 subst hA
 have hb:q < (l.length:Int):=of_decide_eq_true hb
 have hl:(l.length:Int) < 1000000:=hl
 have h0:=h.k0
 have sb:aA.bin .sub .i64 q 1=q - 1:=by show IntKind.i64.wrap _=_;rw[IntKind.wrap_i64];omega
 refine⟨bJ _ rfl _ _ (by omega),by rw[sb];exact bJ _ rfl _ _ (by omega),by rw[sb];exact bH _ rfl _ _ (by show q - 1 < (l.length:Int);omega),bJ _ rfl _ _ (by show q≤(l.length:Int);omega),bJ _ rfl _ _ (Int.le_refl _),by show IntKind.i64.wrap _=_;rw[IntKind.wrap_i64];omega,by omega,hb,fun e=>?_,fun e=>?_⟩
 ·rw[sb,gA,gA] at e
  exact ajQ h hb (of_decide_eq_false e)
 ·rw[sb,gA,gA] at e
  exact ajR h hb (of_decide_eq_true e)
structure CqT (A:Alg) (l:List Pt) (q N k i:Int) (M:List Pt):Prop where
 b1:A.cmp .leq 0 i=true
 b2:A.cmp .lss (A.iadd q i) N=true
 b3:A.cmp .leq 0 (A.iadd q i)=true
 b4:A.cmp .lss (A.iadd q i) (A.len M)=true
 b5:A.cmp .leq 0 (A.bin .sub .i64 i 1)=true
 b6:A.cmp .lss (A.iadd q (A.bin .sub .i64 i 1)) N=true
 b7:A.cmp .leq 0 (A.iadd q (A.bin .sub .i64 i 1))=true
 b8:A.cmp .lss (A.iadd q (A.bin .sub .i64 i 1)) (A.len M)=true
 b9:A.cmp .leq 0 k=true
 b10:A.cmp .lss k (A.len M)=true
 n1:A.not (A.eqP (dP A M (A.iadd q i)) (dP A M (A.iadd q (A.bin .sub .i64 i 1))))=true→Cp2 zPt l q (k+1) (i+1) (A.set M k (dP A M (A.iadd q i)))
 n0:A.not (A.eqP (dP A M (A.iadd q i)) (dP A M (A.iadd q (A.bin .sub .i64 i 1))))=false→Cp2 zPt l q k (i+1) M
 adk:A.bin .add .i64 k 1=k+1
 adi:A.bin .add .i64 i 1=i+1
 ms:((l.length:Int) - (i+1)).toNat < ((l.length:Int) - i).toNat
theorem al7 {l:List Pt} {q N k i:Int} {M:List Pt} (hl:aY l < 1000000) (hN:N=(l.length:Int)) (h:Cp2 zPt l q k i M) (A:Alg) (hA:A=aA) (hb:A.cmp .lss i (A.isub N q)=true):CqT A l q N k i M:=by
 subst hA hN
 have hb:i < (l.length:Int) - q:=of_decide_eq_true hb
 have hl:(l.length:Int) < 1000000:=hl
 have h1:=h.b1;have h2:=h.i1;have h3:=h.k1;have h4:=h.k2
 have hM:(M.length:Int)=(l.length:Int):=by rw[h.len]
 have sb:aA.bin .sub .i64 i 1=i - 1:=by show IntKind.i64.wrap _=_;rw[IntKind.wrap_i64];omega
 have ia: ∀ x y,aA.iadd x y=x+y:=fun _ _=>rfl
 have ln:aA.len M=(l.length:Int):=hM
 have hn: ∀ b:Bool,aA.not b= !b:=fun b=>rfl
 rw[show(CqT aA l q (l.length:Int) k i M)↔CqT aA l q (l.length:Int) k i M from Iff.rfl]
 refine⟨bJ _ rfl _ _ (by omega),?_,?_,?_,?_,?_,?_,?_,bJ _ rfl _ _ (by omega),?_,fun e=>?_,fun e=>?_,by show IntKind.i64.wrap _=_;rw[IntKind.wrap_i64];omega,by show IntKind.i64.wrap _=_;rw[IntKind.wrap_i64];omega,by omega⟩
 ·rw[ia];exact bH _ rfl _ _ (by omega)
 ·rw[ia];exact bJ _ rfl _ _ (by omega)
 ·rw[ia,ln];exact bH _ rfl _ _ (by omega)
 ·rw[sb];exact bJ _ rfl _ _ (by omega)
 ·rw[sb,ia];exact bH _ rfl _ _ (by omega)
 ·rw[sb,ia];exact bJ _ rfl _ _ (by omega)
 ·rw[sb,ia,ln];exact bH _ rfl _ _ (by omega)
 ·rw[ln];exact bH _ rfl _ _ (by omega)
 ·rw[sb,hn,Bool.not_eq_true',ia,ia,gA,gA] at e
  exact akG h (by omega) (of_decide_eq_false e)
 ·rw[sb,hn,Bool.not_eq_false',ia,ia,gA,gA] at e
  exact ajS h (by omega) (of_decide_eq_true e)
structure CqE (A:Alg) (P:SNd) (l:List Pt) (N k:Int) (M:List Pt):Prop where
 c0:A.cmp .leq 0 0=true
 c1:A.cmp .leq 0 k=true
 c2:A.cmp .leq k (A.len M)=true
 c3:A.cmp .leq (A.len M) (A.len M)=true
 c4:A.cmp .lss k (A.len M)=true
 d2:A.cmp .leq k (A.len (A.app (A.sub M 0 k) (A.app (A.rep (A.isub (A.len M) k) ⟨⟨⟨false,A.zD⟩,⟨false,A.zD⟩⟩,⟨⟨false,A.zD⟩,⟨false,A.zD⟩⟩⟩) (A.sub M (A.len M) (A.len M)))))=true
 p0:0≤k
 p1:k≤((A.app (A.sub M 0 k) (A.app (A.rep (A.isub (A.len M) k) ⟨⟨⟨false,A.zD⟩,⟨false,A.zD⟩⟩,⟨⟨false,A.zD⟩,⟨false,A.zD⟩⟩⟩) (A.sub M (A.len M) (A.len M)))).length:Int)
 e:(A.app (A.sub M 0 k) (A.app (A.rep (A.isub (A.len M) k) ⟨⟨⟨false,A.zD⟩,⟨false,A.zD⟩⟩,⟨⟨false,A.zD⟩,⟨false,A.zD⟩⟩⟩) (A.sub M (A.len M) (A.len M)))).take k.toNat=P.cmpt l
theorem al6 {l:List Pt} {q N k i:Int} {M:List Pt} (hl:aY l < 1000000) (hN:N=(l.length:Int)) (h:Cp2 zPt l q k i M) (A:Alg) (hA:A=aA) (P:SNd) (hP:P=dT) (hb:A.cmp .lss i (A.isub N q)=false):CqE A P l N k M:=by
 subst hA hN hP
 have hb: ¬ i < (l.length:Int) - q:=of_decide_eq_false hb
 have hM:(M.length:Int)=(l.length:Int):=by rw[h.len]
 have h3:=h.k1
 obtain⟨e1,e2⟩:=akF h (by omega)
 have ln:aA.len M=(M.length:Int):=rfl
 have hk:k≤(((M.take k.toNat).drop (0:Int).toNat++((List.replicate (aA.isub (aA.len M) k).toNat zPt)++(aA.sub M (aA.len M) (aA.len M)))).length:Int):=by
  rw[List.length_append,Int.toNat_zero,List.drop_zero,List.length_take];omega
 refine⟨bJ _ rfl _ _ (Int.le_refl _),bJ _ rfl _ _ (by omega),bJ _ rfl _ _ (by rw[ln];omega),bJ _ rfl _ _ (Int.le_refl _),bH _ rfl _ _ (by rw[ln];omega),bJ _ rfl _ _ hk,by omega,hk,?_⟩
 rw[← show M.take k.toNat=dT.cmpt l from e2]
 exact akH (by omega) (by omega) _ _
theorem ajY:aJ Tryz.prog 83 (aR [.a (.sw .pt)] aA (alM aA dT)):=by
 refine aW (un:=⟨false,some [0,2,3,4,5,8,13,25,32,44]⟩) tok nF aL (fn:=Tryz.f83) ?_
 intro w Wr args bs r hg ho hWr A L k hA hL hk
 obtain⟨P,hP⟩:=exE dT
 try rw[← hP]
 try rw[← hA]
 unfold alM at hg
 split at hg <;> cases hg
 rename_i l
 have hlen:aY l < 1000000:=acT (aG ho).1
 clear ho
 have lt2:A.cmp .lss (A.len l) 2=true→l=P.cmpt l:=fun h=>by
  subst hA hP
  have h:(l.length:Int) < 2:=of_decide_eq_true h
  exact akN (by omega)
 have ge2:A.cmp .lss (A.len l) 2=false→Cp1 zPt l 1:=fun h=>by
  subst hA
  have h: ¬ (l.length:Int) < 2:=of_decide_eq_false h
  exact ajP (by omega)
 cbv
 repeat' with_reducible first | (intro hb;cbv) | refine UM ?_ ?_
 ·have e:=lt2 hb
  subst hP
  exact hk _ _ (bW.whole rfl rfl rfl (fun ρ=>rfl) rfl e)
 have i0:=ge2 hb
 refine hL _ _ _ (aQ (un:=⟨false,some [0,2,3,4,5,8,13,25,32,44]⟩) tok nF aL (fun q:Int=>⟨[(3,⟨[], .c (.s (.int .i64 q))⟩),(2,⟨[], .c (.s .nils)⟩),(0,⟨[], .c (.s (.hs 0))⟩)],[(0, .vec true .pt l)],1⟩)
  (fun q=>Cp1 zPt l q) (fun q=>((l.length:Int) - q).toNat) 1 i0 ?_ (fun _ i hi=>by have:=hWr i hi;simp at this;show i < 1;omega) ?_)
 ·exact⟨⟨⟨rfl,rfl,fun _=>rfl⟩,⟨rfl,rfl,fun _=>rfl⟩,⟨rfl,rfl,fun _=>rfl⟩,trivial⟩,⟨aF rfl,trivial⟩,rfl,rfl⟩
 clear i0 lt2 ge2
 intro q hJ A2 L2 k2 hA2 hL2 hnext hexit hret
 have st:=fun hb=>al5 hlen hJ A2 hA2 hb
 have en:A2.cmp .lss q (A2.len l)=false→l=P.cmpt l:=fun hb=>by
  subst hA2 hP
  have hb: ¬ q < (l.length:Int):=of_decide_eq_false hb
  exact akE hJ hb
 clear hJ
 cbv
 repeat' with_reducible first | (intro hb;cbv) | refine UM ?_ ?_
 all_goals first | exact(st (by assumption)).o1 | assumption | exact(st (by assumption)).o2 | exact(st (by assumption)).o3 | exact(st (by assumption)).o4 | exact(st (by assumption)).o5 | skip
 rotate_left
 ·have st:=st (by assumption)
  refine hnext _ (q+1) (st.nx hb) st.ms ?_
  have ead:=st.ad
  subst hA2 hA
  exact⟨⟨⟨rfl,rfl,leI ead⟩,⟨rfl,rfl,fun _=>rfl⟩,⟨rfl,rfl,fun _=>rfl⟩,trivial⟩,⟨aF rfl,trivial⟩,rfl,rfl⟩
 ·have e:=en hb
  apply hexit
  clear hexit hnext hret st en
  subst hP
  cbv
  exact hk _ _ (bW.whole rfl rfl rfl (fun ρ=>rfl) rfl e)
 have st:=st (by assumption)
 have hq:=st.lt
 have i1:=st.eq hb
 clear st en
 refine hL2 _ _ _ (aQ (un:=⟨false,some [0,2,3,4,5,8,13,25,32,44]⟩) tok nF aL (fun p:Int×Int×List Pt=>⟨[(5,⟨[], .c (.s (.int .i64 p.2.1))⟩),(4,⟨[], .c (.s (.hw 0 132 q (A2.len l)))⟩),(3,⟨[], .c (.s (.int .i64 p.1))⟩),(2,⟨[], .c (.s .nils)⟩),(0,⟨[], .c (.s (.hs 0))⟩)],[(0, .vec true .pt p.2.2)],1⟩)
  (fun p=>Cp2 zPt l q p.1 p.2.1 p.2.2) (fun p=>((l.length:Int) - p.2.1).toNat) (q,1,l) i1 ?_ (fun _ i hi=>by have:=hWr i hi;simp at this;show i < 1;omega) ?_)
 ·exact⟨⟨⟨rfl,rfl,fun _=>rfl⟩,⟨rfl,rfl,fun _=>rfl⟩,⟨rfl,rfl,fun _=>rfl⟩,⟨rfl,rfl,fun _=>rfl⟩,⟨rfl,rfl,fun _=>rfl⟩,trivial⟩,⟨aF rfl,trivial⟩,rfl,rfl⟩
 clear i1
 rintro⟨k,i,M⟩ hJ A3 L3 k3 hA3 hL3 hnext2 hexit2 hret2
 have hN:A2.len l=(l.length:Int):=by subst hA2;rfl
 have st:=fun hb=>al7 (A:=A3) hlen hN hJ hA3 hb
 have en:=fun hb=>al6 (A:=A3) (P:=P) hlen hN hJ hA3 hP hb
 have g1:A3.cmp .leq 0 q=true:=bJ _ hA3 _ _ (by have:=hJ.b1;omega)
 have g2:A3.cmp .leq q (A2.len l)=true:=bJ _ hA3 _ _ (by rw[hN];omega)
 have g3:A3.cmp .leq (A2.len l) (A3.len M)=true:=bJ _ hA3 _ _ (by rw[hN];subst hA3;show _≤(M.length:Int);rw[hJ.len];exact Int.le_refl _)
 clear hJ
 cbv
 repeat' with_reducible first | (intro hb;cbv) | refine UM ?_ ?_
 all_goals first | exact g1 | exact g2 | exact g3 | (have st:=st (by assumption);first | exact st.b1 | exact st.b2 | exact st.b3 | exact st.b4 | exact st.b5 | exact st.b6 | exact st.b7 | exact st.b8 | exact st.b9 | exact st.b10) | skip
 ·have st:=st (by assumption)
  refine hnext2 _ (k+1,i+1,_) (st.n1 hb) st.ms ?_
  have e1:=st.adk
  have e2:=st.adi
  subst hA3 hA2 hA
  exact⟨⟨⟨rfl,rfl,leI e2⟩,⟨rfl,rfl,fun _=>rfl⟩,⟨rfl,rfl,leI e1⟩,⟨rfl,rfl,fun _=>rfl⟩,⟨rfl,rfl,fun _=>rfl⟩,trivial⟩,⟨aF rfl,trivial⟩,rfl,rfl⟩
 ·have st:=st (by assumption)
  refine hnext2 _ (k,i+1,M) (st.n0 hb) st.ms ?_
  have e2:=st.adi
  subst hA3 hA2 hA
  exact⟨⟨⟨rfl,rfl,leI e2⟩,⟨rfl,rfl,fun _=>rfl⟩,⟨rfl,rfl,fun _=>rfl⟩,⟨rfl,rfl,fun _=>rfl⟩,⟨rfl,rfl,fun _=>rfl⟩,trivial⟩,⟨aF rfl,trivial⟩,rfl,rfl⟩
 ·have en:=en hb
  have eA:A3=A2:=hA3.trans hA2.symm
  apply hexit2
  clear hexit2 hnext2 hret2 hexit hnext st
  subst eA
  cbv
  repeat' with_reducible first | (intro hb;cbv) | refine UM ?_ ?_
  all_goals first | exact en.c0 | exact en.c1 | exact en.c2 | exact en.c3 | exact en.c4 | exact en.d2 | skip
  apply hret
  clear hret
  cbv
  subst hA2 hP
  exact hk _ _ (bW.win rfl rfl rfl rfl (fun ρ=>rfl) rfl en.p0 en.p1 en.e)
def nA1 (A:Alg) (H:SH) (P:SNd):List (Nat×bU):=(81,(aiW 82 (ajH A H P))) :: (83,aR [.a (.sw .pt)] A (alM A P)) :: ([])
theorem alO:COK Tryz.prog (aN (nA1 aA bD dT)):=aB ajZ (aB ajY (bC))
def alL (A:Alg) (I:SP):List CV→List Blk→Option LW
 | [.s (.hs 0), .g [.P p], .s (.fn 82 [])],[.vec false .pt l]=>some ⟨[A.cmp .lss (A.len l) 1000000], .t [.s (.int .i64 (I.pos l p)), .s (.bool (I.there l p))],[],[]⟩
 | _,_=>none
def nA2 (A:Alg) (H:SH):List (Nat×bU):=(82,aC [.v, .v] A (adI H)) :: ([])
theorem akS:COK Tryz.prog (aN (nA2 aA bD)):=aB ajL (bC)
theorem ak2:aJ Tryz.prog 84 (aR [.a (.s .pt), .a .v, .a (.f [])] aA (alL aA f7)):=by
 refine aW (un:=⟨false,some [0,1,2,4,6,7,8,9,10,11,17,31]⟩) tok akS aL (fn:=Tryz.f84) ?_
 intro w Wr args bs r hg ho hWr A L k hA hL hk
 obtain⟨H,hH⟩:=exE bD
 obtain⟨I,hI⟩:=exE f7
 try rw[← hH]
 try rw[← hI]
 try rw[← hA]
 unfold alL at hg
 split at hg <;> cases hg
 rename_i p l
 have hlen:=(aG ho).1
 simp only[aA,aP,decide_eq_true_eq] at hlen
 have hlen:aY l < 1000000:=by unfold aY;omega
 clear ho
 have i0:BsJ l p 0 (A.len l):=by subst hA;exact⟨Int.le_refl _,Int.natCast_nonneg _,Int.le_refl _,l.length,by show(l.length:Int) - 0≤_;omega,rfl⟩
 cbv
 refine hL _ _ _ (aQ (un:=⟨false,some [0,1,2,4,6,7,8,9,10,11,17,31]⟩) tok akS aL (fun q:Int×Int=>⟨[(10,⟨[], .c (.s (.int .i64 q.2))⟩),(9,⟨[], .c (.s (.int .i64 q.1))⟩),(8,⟨[], .c (.s (.int .i64 (A.len l)))⟩),(4,⟨[], .c (.s (.hp 1 0))⟩),(2,⟨[], .c (.s (.fn 82 []))⟩),(0,⟨[], .c (.s (.hs 0))⟩)],[(1, .fix true [.P p]),(0, .vec false .pt l)],2⟩)
  (fun q=>BsJ l p q.1 q.2) (fun q=>(q.2 - q.1).toNat) (0,A.len l) i0 ?_ (fun _ i hi=>by have:=hWr i hi;simp at this;show i < 2;omega) ?_)
 ·exact⟨⟨⟨rfl,rfl,fun _=>rfl⟩,⟨rfl,rfl,fun _=>rfl⟩,⟨rfl,rfl,fun _=>rfl⟩,⟨rfl,rfl,fun _=>rfl⟩,⟨rfl,rfl,fun _=>rfl⟩,⟨rfl,rfl,fun _=>rfl⟩,trivial⟩,⟨aF rfl,aF rfl,trivial⟩,rfl,rfl⟩
 clear i0
 rintro⟨i,j⟩ hJ A2 L2 k2 nA2 hL2 hnext hexit hret
 have st:=fun hb=>agA hlen hJ (afN hlen hJ A2 nA2) A2 nA2 H hH hb
 have en:=fun hb=>af9 hJ A2 nA2 H hH I hI hb
 clear hJ
 rw[hA, ← nA2, ← hH]
 cbv
 repeat' with_reducible first | (intro hb;cbv) | refine UM ?_ ?_
 all_goals first | exact(st (by assumption)).o1 | exact(st (by assumption)).o2 | skip
 ·obtain⟨nx,ms⟩:=(st (by assumption)).n1 hb
  refine hnext _ (_,j) nx ms ?_
  subst nA2 hA
  exact⟨⟨⟨rfl,rfl,fun _=>rfl⟩,⟨rfl,rfl,fun _=>rfl⟩,⟨rfl,rfl,fun _=>rfl⟩,⟨rfl,rfl,fun _=>rfl⟩,⟨rfl,rfl,fun _=>rfl⟩,⟨rfl,rfl,fun _=>rfl⟩,trivial⟩,⟨aF rfl,aF rfl,trivial⟩,rfl,rfl⟩
 ·obtain⟨nx,ms⟩:=(st (by assumption)).n0 hb
  refine hnext _ (i,_) nx ms ?_
  subst nA2 hA
  exact⟨⟨⟨rfl,rfl,fun _=>rfl⟩,⟨rfl,rfl,fun _=>rfl⟩,⟨rfl,rfl,fun _=>rfl⟩,⟨rfl,rfl,fun _=>rfl⟩,⟨rfl,rfl,fun _=>rfl⟩,⟨rfl,rfl,fun _=>rfl⟩,trivial⟩,⟨aF rfl,aF rfl,trivial⟩,rfl,rfl⟩
 ·have e:=en hb
  have eA:A2=A:=nA2.trans hA.symm
  apply hexit
  clear hexit hnext hret st en
  subst eA
  cbv
  repeat' with_reducible first | (intro hb;cbv) | refine UM ?_ ?_
  all_goals first | exact e.o1 | exact e.o2 | skip
  refine hk _ _ (bW.pure rfl rfl fun ρ=>?_)
  have e1:=e.pos
  have e2:=e.there
  subst hI
  exact afX e1 e2
def ajG (A:Alg) (I:SP):List CV→List Blk→Option LW
 | [.s (.hs 0), .g [.P p]],[.vec false .pt l]=>some ⟨[A.cmp .lss (A.len l) 1000000], .c (.s (.int .i64 (I.find l p))),[],[]⟩
 | _,_=>none
def nA3 (A:Alg) (H:SH) (I:SP):List (Nat×bU):=(84,aR [.a (.s .pt), .a .v, .a (.f [])] A (alL A I)) :: (80,aC [.v] A (C1 H)) :: ([])
theorem alP:COK Tryz.prog (aN (nA3 aA bD f7)):=aB ak2 (aB DQ (bC))
structure FdN (A:Alg) (H:SH) (I:SP) (l:List Pt) (p:Pt):Prop where
 no:A.not (H.all [p])=true→ -1=I.find l p
 n:A.not (H.all [p])=false→A.not (I.there l p)=true→ -1=I.find l p
 y:A.not (H.all [p])=false→A.not (I.there l p)=false→I.pos l p=I.find l p
theorem al8 (A:Alg) (hA:A=aA) (H:SH) (hH:H=bD) (I:SP) (hI:I=f7) (l:List Pt) (p:Pt):FdN A H I l p:=by
 subst hA hH hI
 have hn: ∀ b:Bool,aA.not b= !b:=fun b=>rfl
 have ea:bD.all [p]=dJ p:=by show(dJ p&&true)=_;rw[Bool.and_true]
 have ef:f7.find l p=if dJ p&&i8 l p then v5 l p else -1:=rfl
 have et:f7.there l p=i8 l p:=rfl
 refine⟨fun h=>?_,fun h h2=>?_,fun h h2=>?_⟩ <;> rw[ef]
 ·rw[hn,ea,Bool.not_eq_true'] at h;rw[h];rfl
 ·rw[hn,Bool.not_eq_true',et] at h2;rw[h2,Bool.and_false];rfl
 ·rw[hn,ea,Bool.not_eq_false'] at h;rw[hn,Bool.not_eq_false',et] at h2;rw[h,h2];rfl
theorem aiT:aJ Tryz.prog 48 (aR [.a (.s .pt), .a .v] aA (ajG aA f7)):=by
 refine aW (un:=⟨false,some [0,1,3,4,5,6,9,17]⟩) tok alP aL (fn:=Tryz.f48) ?_
 intro w Wr args bs r hg ho hWr A L k hA hL hk
 obtain⟨H,hH⟩:=exE bD
 obtain⟨I,hI⟩:=exE f7
 try rw[← hH]
 try rw[← hI]
 try rw[← hA]
 unfold ajG at hg
 split at hg <;> cases hg
 rename_i p l
 have o1:=(aG ho).1
 rw[← hA] at o1
 clear ho
 have f:=al8 A hA H hH I hI l p
 cbv
 repeat' with_reducible first | (intro hb;cbv) | refine UM ?_ ?_
 ·have e:=f.no hb
  subst hI
  exact hk _ _ (bW.pure rfl rfl fun ρ=>dL e)
 ·exact o1
 ·have e:=f.n (by assumption) hb
  subst hI
  exact hk _ _ (bW.pure rfl rfl fun ρ=>dL e)
 ·have e:=f.y (by assumption) hb
  subst hI
  exact hk _ _ (bW.pure rfl rfl fun ρ=>dI e)
def ajA (A:Alg) (I:SP):List CV→List Blk→Option LW
 | [.s (.hs 0)],[.vec false .pt l]=>some ⟨[A.cmp .lss (A.len l) 100000], .c (.s (.hs 1)),[.vec true .pt (I.srt l)],[]⟩
 | _,_=>none
structure SnJ (l:List Pt) (k:Int) (M:List Pt):Prop where
 k0:0≤k
 k1:k≤aY l
 e:M=XE dJ l k.toNat
structure SnS (A:Alg) (H:SH) (l:List Pt) (k:Int) (M:List Pt):Prop where
 o1:A.cmp .leq 0 k=true
 c1:A.cmp .leq (A.iadd (A.len M) (A.len [dP A l k])) 1000000=true
 n1:H.all [dP A l k]=true→SnJ l (k+1) (A.app M [dP A l k])
 n0:H.all [dP A l k]=false→SnJ l (k+1) M
 ad:A.bin .add .i64 k 1=k+1
 ms:(aY l - (k+1)).toNat < (aY l - k).toNat
theorem aiS (F:Pt→Bool) (l:List Pt): ∀ k,(XE F l k).length≤k
 | 0=>Nat.le_refl _
 | k+1=>by
  have:=aiS F l k
  unfold XE
  split
  ·rw[List.length_append,List.length_singleton];omega
  ·omega
theorem amI {l:List Pt} {k:Int} {M:List Pt} (hl:(l.length:Int) < 100000) (h:SnJ l k M) (A:Alg) (hA:A=aA) (H:SH) (hH:H=bD) (hb:A.cmp .lss k (A.len l)=true):SnS A H l k M:=by
 subst hA hH
 obtain⟨k0,k1,e⟩:=h
 have hb:k < (l.length:Int):=of_decide_eq_true hb
 have hll:aY l=(l.length:Int):=rfl
 have hM:(M.length:Int)≤100000:=by rw[e];have:=aiS dJ l k.toNat;omega
 have ek:(k+1).toNat=k.toNat+1:=by omega
 have ek2:((k.toNat:Nat):Int)=k:=Int.toNat_of_nonneg k0
 have ea:bD.all [dP aA l k]=dJ (pC l k):=by show(dJ (pC l k)&&true)=_;rw[Bool.and_true]
 refine⟨bJ _ rfl _ _ k0,bJ _ rfl _ _ (by show(M.length:Int)+(([dP aA l k]:List Pt).length:Int)≤1000000;rw[List.length_singleton];omega),fun h=>⟨by omega,by omega,?_⟩,fun h=>⟨by omega,by omega,?_⟩,by show IntKind.i64.wrap _=_;rw[IntKind.wrap_i64];omega,by omega⟩
 ·rw[ea] at h
  rw[ek,XE,ek2,h, ← e]
  rfl
 ·rw[ea] at h
  rw[ek,XE,ek2,h, ← e]
  rfl
structure SnE (A:Alg) (H:SH) (P:SNd) (I:SP) (l M:List Pt):Prop where
 o1:A.cmp .lss (A.len M) 1000000=true
 o2:H.all M=true
 o3:A.cmp .lss (A.len (P.srt M)) 1000000=true
 e:P.cmpt (P.srt M)=I.srt l
theorem amH {l:List Pt} {k:Int} {M:List Pt} (hl:(l.length:Int) < 100000) (h:SnJ l k M) (A:Alg) (hA:A=aA) (H:SH) (hH:H=bD) (P:SNd) (hP:P=dT) (I:SP) (hI:I=f7) (hb:A.cmp .lss k (A.len l)=false):SnE A H P I l M:=by
 subst hA hH hP hI
 obtain⟨k0,k1,e⟩:=h
 have hb: ¬ k < (l.length:Int):=of_decide_eq_false hb
 have hll:aY l=(l.length:Int):=rfl
 have ek:k.toNat=l.length:=by omega
 have hM:M=dT.flt l:=by rw[e,ek];rfl
 have hlM:M.length≤l.length:=by rw[e];have:=aiS dJ l k.toNat;omega
 have hsl:(dT.srt M).length=M.length:=List.length_mergeSort _
 refine⟨bH _ rfl _ _ (by show(M.length:Int) < 1000000;omega),?_,bH _ rfl _ _ (by show((dT.srt M).length:Int) < 1000000;rw[hsl];omega),by rw[hM];exact akV l⟩
 refine List.all_eq_true.2 fun x hx=>?_
 rw[hM,show dT.flt l=l.filter dJ from ab9 dJ l] at hx
 exact(List.mem_filter.1 hx).2
def nA4 (A:Alg) (H:SH) (P:SNd):List (Nat×bU):=(80,aC [.v] A (C1 H)) :: ((nA1 A H P))
theorem akT:COK Tryz.prog (aN (nA4 aA bD dT)):=aB DQ (alO)
theorem aiL:aJ Tryz.prog 46 (aR [.a (.s .pt)] aA (ajA aA f7)):=by
 refine aW (un:=⟨false,some [0,2,3,5,6,7,8,9,13]⟩) tok akT aL (fn:=Tryz.f46) ?_
 intro w Wr args bs r hg ho hWr A L k hA hL hk
 obtain⟨H,hH⟩:=exE bD
 obtain⟨I,hI⟩:=exE f7
 obtain⟨P,hP⟩:=exE dT
 try rw[← hH]
 try rw[← hI]
 try rw[← hP]
 try rw[← hA]
 unfold ajA at hg
 split at hg <;> cases hg
 rename_i l
 have hl:(l.length:Int) < 100000:=akR (aG ho).1
 clear ho
 have i0:SnJ l 0 []:=⟨Int.le_refl _,Int.natCast_nonneg _,rfl⟩
 cbv
 refine hL _ _ _ (gM (un:=⟨false,some [0,2,3,5,6,7,8,9,13]⟩) tok akT aL 1 (fun i hi=>by have:=hWr i hi;simp at this;show i < 1;omega) (fun p:Int×List Pt=>⟨[(8,⟨[], .c (.s (.int .i64 p.1))⟩),(7,⟨[], .c (.s (.int .i64 (A.len l)))⟩),(6,⟨[], .c (.s (.hs 0))⟩),(3,⟨[], .c (.s (.hs 1))⟩),(2,⟨[], .c (.s .nils)⟩),(0,⟨[], .c (.s (.hs 0))⟩)],[(0, .vec false .pt l),(1, .vec true .pt p.2)],2⟩)
  (fun p=>SnJ l p.1 p.2) (fun p=>(aY l - p.1).toNat) (0,[]) i0 [(1, .nils)] ?_ (fun _=>Nat.le_of_ble_eq_true rfl) ?_)
 ·exact⟨⟨⟨rfl,rfl,fun _=>rfl⟩,⟨rfl,rfl,fun _=>rfl⟩,⟨rfl,rfl,fun _=>rfl⟩,⟨rfl,rfl,fun _=>rfl⟩,⟨rfl,rfl,fun _=>rfl⟩,⟨rfl,rfl,fun _=>rfl⟩,trivial⟩,⟨⟨rfl,rfl,rfl,rfl,fun h=>h⟩,rfl,trivial⟩,rfl,rfl,rfl,rfl⟩
 clear i0
 rintro⟨k,M⟩ hJ A2 L2 k2 hA2 hL2 hnext hexit hret
 rw[← hA2, ← hH, ← hP]
 have hJ:SnJ l k M:=hJ
 have eN:A2.len l=A.len l:=by rw[hA2,hA]
 have st:=fun hb:A2.cmp .lss k (A.len l)=true=>amI hl hJ A2 hA2 H hH (by rw[eN];exact hb)
 have en:=fun hb:A2.cmp .lss k (A.len l)=false=>amH hl hJ A2 hA2 H hH P hP I hI (by rw[eN];exact hb)
 have le:A2.cmp .lss k (A.len l)=true→A2.cmp .lss k (A2.len l)=true:=fun h=>by rw[eN];exact h
 clear hJ
 cbv
 repeat' with_reducible first | (intro hb;cbv) | refine UM ?_ ?_
 all_goals first | (have st:=st (by assumption);first | exact st.o1 | exact st.c1) | exact le (by assumption) | skip
 ·have st:=st (by assumption)
  have ead:=st.ad
  have nx:=st.n1 hb
  have ems:=st.ms
  subst hA2 hA
  first | (refine hnext _ (k+1,_) [(1, .hs 4)] nx ems ?_;exact⟨⟨⟨rfl,rfl,leI ead⟩,⟨rfl,rfl,fun _=>rfl⟩,⟨rfl,rfl,fun _=>rfl⟩,⟨rfl,rfl,fun _=>rfl⟩,⟨rfl,rfl,fun _=>rfl⟩,⟨rfl,rfl,fun _=>rfl⟩,trivial⟩,⟨⟨rfl,rfl,rfl,rfl,fun h=>h⟩,⟨rfl,rfl,rfl,rfl,fun h=>h⟩,trivial⟩,rfl,rfl,rfl,rfl⟩) | (refine hnext _ (k+1,_) [(1, .hs 3)] nx ems ?_;exact⟨⟨⟨rfl,rfl,leI ead⟩,⟨rfl,rfl,fun _=>rfl⟩,⟨rfl,rfl,fun _=>rfl⟩,⟨rfl,rfl,fun _=>rfl⟩,⟨rfl,rfl,fun _=>rfl⟩,⟨rfl,rfl,fun _=>rfl⟩,trivial⟩,⟨⟨rfl,rfl,rfl,rfl,fun h=>h⟩,⟨rfl,rfl,rfl,rfl,fun h=>h⟩,trivial⟩,rfl,rfl,rfl,rfl⟩) | (refine hnext _ (k+1,_) [(1, .hs 5)] nx ems ?_;exact⟨⟨⟨rfl,rfl,leI ead⟩,⟨rfl,rfl,fun _=>rfl⟩,⟨rfl,rfl,fun _=>rfl⟩,⟨rfl,rfl,fun _=>rfl⟩,⟨rfl,rfl,fun _=>rfl⟩,⟨rfl,rfl,fun _=>rfl⟩,trivial⟩,⟨⟨rfl,rfl,rfl,rfl,fun h=>h⟩,⟨rfl,rfl,rfl,rfl,fun h=>h⟩,trivial⟩,rfl,rfl,rfl,rfl⟩)
 ·have st:=st (by assumption)
  have ead:=st.ad
  have nx:=st.n0 hb
  have ems:=st.ms
  subst hA2 hA
  refine hnext _ (k+1,M) [] nx ems ?_
  exact⟨⟨⟨rfl,rfl,leI ead⟩,⟨rfl,rfl,fun _=>rfl⟩,⟨rfl,rfl,fun _=>rfl⟩,⟨rfl,rfl,fun _=>rfl⟩,⟨rfl,rfl,fun _=>rfl⟩,⟨rfl,rfl,fun _=>rfl⟩,trivial⟩,⟨⟨rfl,rfl,rfl,rfl,fun h=>h⟩,⟨rfl,rfl,rfl,rfl,fun h=>h⟩,trivial⟩,rfl,rfl,rfl,rfl⟩
 ·have e:=en hb
  have eA:A2=A:=hA2.trans hA.symm
  apply hexit
  clear hexit hnext hret st en
  subst eA
  cbv
  repeat' with_reducible first | (intro hb;cbv) | refine UM ?_ ?_
  all_goals first | exact e.o1 | exact e.o2 | exact e.o3 | skip
  subst hI hP
  first | exact hk _ _ (bW.one (t:=2) rfl rfl (Nat.le_of_ble_eq_true rfl) (fun ρ=>rfl) rfl (.vec e.e)) | exact hk _ _ (bW.one (t:=3) rfl rfl (Nat.le_of_ble_eq_true rfl) (fun ρ=>rfl) rfl (.vec e.e))
def ajT (A:Alg) (I:SP) (P:SNd):List CV→List Blk→Option LW
 | [.s (.hs 0)],[.vec false (.row [.int .i64, .int .i64, .int .i64, .P, .P, .P]) l]=>some ⟨[A.cmp .lss (A.len l) 10000], .c (.s (.hs 1)),[.vec true .pt (I.srt (P.cors l))],[]⟩
 | _,_=>none
structure AlJ (l:List PcR) (k:Int) (M:List Pt):Prop where
 k0:0≤k
 k1:k≤(l.length:Int)
 e:M=ai9 l k.toNat
def ajU (A:Alg) (l:List PcR) (k:Int):PcR:=A.get l k (0,0,0,⟨⟨⟨false,A.zD⟩,⟨false,A.zD⟩⟩,⟨⟨false,A.zD⟩,⟨false,A.zD⟩⟩⟩,⟨⟨⟨false,A.zD⟩,⟨false,A.zD⟩⟩,⟨⟨false,A.zD⟩,⟨false,A.zD⟩⟩⟩,⟨⟨⟨false,A.zD⟩,⟨false,A.zD⟩⟩,⟨⟨false,A.zD⟩,⟨false,A.zD⟩⟩⟩,())
structure AlS (A:Alg) (I:SP) (l:List PcR) (k:Int) (M:List Pt):Prop where
 o1:A.cmp .leq 0 k=true
 c1:A.cmp .leq (A.iadd (A.len M) (A.len (I.cor (ajU A l k).2.2.2.1 (ajU A l k).2.2.2.2.1 (ajU A l k).2.2.2.2.2.1))) 1000000=true
 nx:AlJ l (k+1) (A.app M (I.cor (ajU A l k).2.2.2.1 (ajU A l k).2.2.2.2.1 (ajU A l k).2.2.2.2.2.1))
 ad:A.bin .add .i64 k 1=k+1
 ms:((l.length:Int) - (k+1)).toNat < ((l.length:Int) - k).toNat
theorem al4 {l:List PcR} {k:Int} {M:List Pt} (hl:(l.length:Int) < 10000) (h:AlJ l k M) (A:Alg) (hA:A=aA) (I:SP) (hI:I=f7) (hb:A.cmp .lss k (A.len l)=true):AlS A I l k M:=by
 subst hA hI
 obtain⟨k0,k1,e⟩:=h
 have hb:k < (l.length:Int):=of_decide_eq_true hb
 have ek:(k+1).toNat=k.toNat+1:=by omega
 have l1:=aiC l k.toNat
 have l2:=aiC l (k.toNat+1)
 have hc:ai9 l (k.toNat+1)=M++f7.cor (ajU aA l k).2.2.2.1 (ajU aA l k).2.2.2.2.1 (ajU aA l k).2.2.2.2.2.1:=by rw[e];rfl
 refine⟨bJ _ rfl _ _ k0,bJ _ rfl _ _ ?_,⟨by omega,by omega,by rw[ek,hc];rfl⟩,by show IntKind.i64.wrap _=_;rw[IntKind.wrap_i64];omega,by omega⟩
 rw[hc,List.length_append] at l2
 show(M.length:Int)+((f7.cor _ _ _).length:Int)≤1000000
 omega
structure AlE (A:Alg) (P:SNd) (l:List PcR) (M:List Pt):Prop where
 o1:A.cmp .lss (A.len M) 100000=true
 e:M=P.cors l
theorem al3 {l:List PcR} {k:Int} {M:List Pt} (hl:(l.length:Int) < 10000) (h:AlJ l k M) (A:Alg) (hA:A=aA) (P:SNd) (hP:P=dT) (hb:A.cmp .lss k (A.len l)=false):AlE A P l M:=by
 subst hA hP
 obtain⟨k0,k1,e⟩:=h
 have hb: ¬ k < (l.length:Int):=of_decide_eq_false hb
 have ek:k.toNat=l.length:=by omega
 have l1:=aiC l k.toNat
 refine⟨bH _ rfl _ _ (by show(M.length:Int) < 100000;rw[e];omega),by rw[e,ek];rfl⟩
def nA5 (A:Alg) (I:SP):List (Nat×bU):=(78,aR [.a .v] A (ac0 I)) :: (46,aR [.a (.s .pt)] A (ajA A I)) :: ([])
theorem akU:COK Tryz.prog (aN (nA5 aA f7)):=aB aeA (aB aiL (bC))
theorem ajK:aJ Tryz.prog 44 (aR [.a (.s (.row [.int .i64, .int .i64, .int .i64, .P, .P, .P]))] aA (ajT aA f7 dT)):=by
 refine aW (un:=⟨false,some [0,2,3,5,6,7,8,9]⟩) tok akU aL (fn:=Tryz.f44) ?_
 intro w Wr args bs r hg ho hWr A L k hA hL hk
 obtain⟨I,hI⟩:=exE f7
 obtain⟨P,hP⟩:=exE dT
 try rw[← hI]
 try rw[← hP]
 try rw[← hA]
 unfold ajT at hg
 split at hg <;> cases hg
 rename_i l
 have hl:(l.length:Int) < 10000:=akR (aG ho).1
 clear ho
 have i0:AlJ l 0 []:=⟨Int.le_refl _,Int.natCast_nonneg _,rfl⟩
 cbv
 refine hL _ _ _ (gM (un:=⟨false,some [0,2,3,5,6,7,8,9]⟩) tok akU aL 1 (fun i hi=>by have:=hWr i hi;simp at this;show i < 1;omega) (fun p:Int×List Pt=>⟨[(8,⟨[], .c (.s (.int .i64 p.1))⟩),(7,⟨[], .c (.s (.int .i64 (A.len l)))⟩),(6,⟨[], .c (.s (.hs 0))⟩),(3,⟨[], .c (.s (.hs 1))⟩),(2,⟨[], .c (.s .nils)⟩),(0,⟨[], .c (.s (.hs 0))⟩)],[(0, .vec false (.row [.int .i64, .int .i64, .int .i64, .P, .P, .P]) l),(1, .vec true .pt p.2)],2⟩)
  (fun p=>AlJ l p.1 p.2) (fun p=>((l.length:Int) - p.1).toNat) (0,[]) i0 [(1, .nils)] ?_ (fun _=>Nat.le_of_ble_eq_true rfl) ?_)
 ·exact⟨⟨⟨rfl,rfl,fun _=>rfl⟩,⟨rfl,rfl,fun _=>rfl⟩,⟨rfl,rfl,fun _=>rfl⟩,⟨rfl,rfl,fun _=>rfl⟩,⟨rfl,rfl,fun _=>rfl⟩,⟨rfl,rfl,fun _=>rfl⟩,trivial⟩,⟨⟨rfl,rfl,rfl,rfl,fun h=>h⟩,rfl,trivial⟩,rfl,rfl,rfl,rfl⟩
 clear i0
 rintro⟨k,M⟩ hJ A2 L2 k2 hA2 hL2 hnext hexit hret
 rw[← hA2, ← hI]
 have hJ:AlJ l k M:=hJ
 have eN:A2.len l=A.len l:=by rw[hA2,hA]
 have st:=fun hb:A2.cmp .lss k (A.len l)=true=>al4 hl hJ A2 hA2 I hI (by rw[eN];exact hb)
 have en:=fun hb:A2.cmp .lss k (A.len l)=false=>al3 hl hJ A2 hA2 P hP (by rw[eN];exact hb)
 have le:A2.cmp .lss k (A.len l)=true→A2.cmp .lss k (A2.len l)=true:=fun h=>by rw[eN];exact h
 clear hJ
 cbv
 repeat' with_reducible first | (intro hb;cbv) | refine UM ?_ ?_
 all_goals first | (have st:=st (by assumption);first | exact st.o1 | exact st.c1) | exact le (by assumption) | skip
 ·have st:=st (by assumption)
  have ead:=st.ad
  have nx:=st.nx
  have ems:=st.ms
  subst hA2 hA
  first | (refine hnext _ (k+1,_) [(1, .hs 4)] nx ems ?_;exact⟨⟨⟨rfl,rfl,leI ead⟩,⟨rfl,rfl,fun _=>rfl⟩,⟨rfl,rfl,fun _=>rfl⟩,⟨rfl,rfl,fun _=>rfl⟩,⟨rfl,rfl,fun _=>rfl⟩,⟨rfl,rfl,fun _=>rfl⟩,trivial⟩,⟨⟨rfl,rfl,rfl,rfl,fun h=>h⟩,⟨rfl,rfl,rfl,rfl,fun h=>h⟩,trivial⟩,rfl,rfl,rfl,rfl⟩) | (refine hnext _ (k+1,_) [(1, .hs 3)] nx ems ?_;exact⟨⟨⟨rfl,rfl,leI ead⟩,⟨rfl,rfl,fun _=>rfl⟩,⟨rfl,rfl,fun _=>rfl⟩,⟨rfl,rfl,fun _=>rfl⟩,⟨rfl,rfl,fun _=>rfl⟩,⟨rfl,rfl,fun _=>rfl⟩,trivial⟩,⟨⟨rfl,rfl,rfl,rfl,fun h=>h⟩,⟨rfl,rfl,rfl,rfl,fun h=>h⟩,trivial⟩,rfl,rfl,rfl,rfl⟩) | (refine hnext _ (k+1,_) [(1, .hs 5)] nx ems ?_;exact⟨⟨⟨rfl,rfl,leI ead⟩,⟨rfl,rfl,fun _=>rfl⟩,⟨rfl,rfl,fun _=>rfl⟩,⟨rfl,rfl,fun _=>rfl⟩,⟨rfl,rfl,fun _=>rfl⟩,⟨rfl,rfl,fun _=>rfl⟩,trivial⟩,⟨⟨rfl,rfl,rfl,rfl,fun h=>h⟩,⟨rfl,rfl,rfl,rfl,fun h=>h⟩,trivial⟩,rfl,rfl,rfl,rfl⟩)
 ·have e:=en hb
  have eA:A2=A:=hA2.trans hA.symm
  apply hexit
  clear hexit hnext hret st en
  subst eA
  cbv
  repeat' with_reducible first | (intro hb;cbv) | refine UM ?_ ?_
  all_goals first | exact e.o1 | skip
  have ee:=e.e
  subst hI hP
  first | exact hk _ _ (bW.one (t:=2) rfl rfl (Nat.le_of_ble_eq_true rfl) (fun ρ=>rfl) rfl (.vec (by rw[ee]))) | exact hk _ _ (bW.one (t:=3) rfl rfl (Nat.le_of_ble_eq_true rfl) (fun ρ=>rfl) rfl (.vec (by rw[ee])))
end Go.Eng
