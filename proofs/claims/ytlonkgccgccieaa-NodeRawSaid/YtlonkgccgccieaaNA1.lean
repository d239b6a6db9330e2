
import Derived.Test.YtlonkgccgccieaaCH1
import Derived.Test.YtlonkgccgccieaaSpecQ2
set_option linter.all false
set_option exponentiation.threshold 3000
set_option maxRecDepth 100000
set_option maxHeartbeats 2000000
namespace Go.Eng
open Go.Proofs
def nA0 (A:Alg) (H:SH):List (Nat×bU):=(91,aC [.v, .v] A (CQ H)) :: ([])
theorem alN:COK Try.prog (aN (nA0 aA bD)):=aB yJ (bC)
theorem ajL:aJ Try.prog 66 (aC [.v, .v] aA (adI bD)):=by
 refine aH (un:=⟨false,some [0,1,2,3,4,5]⟩) tok alN aL (fn:=Try.f66) ?_
 intro w Wr args bs r hg ho hWr A L k hA hL hk
 obtain⟨H,hH⟩:=exE bD
 try rw[← hH]
 try rw[← hA]
 unfold adI at hg
 split at hg <;> cases hg
 rename_i x y
 cbv
 repeat' with_reducible first | (intro hb;cbv) | refine UM ?_ ?_
 exact hk _ _ (bE.pure rfl fun ρ=>by subst hH;rfl)
def aiJ:Go.Shelf.Ren:=⟨fun | 6=>65 | 15=>83 | 14=>90 | 28=>107 | 29=>108 | 20=>113 | 21=>114 | 22=>115 | 23=>116 | 24=>117 | 25=>118 | 26=>119 | 27=>120 | 46=>135 | 47=>126 | 48=>127 | 49=>136 | 50=>137 | 57=>152 | n=>n,fun | 22=>53 | 24=>64 | 25=>56 | 3=>3 | 39=>114 | 0=>0 | 53=>57 | 55=>113 | 4=>4 | 46=>149 | 45=>148 | 50=>103 | 5=>5 | 9=>9 | 66=>168 | 70=>172 | 76=>187 | 77=>188 | n=>n,fun n=>n⟩
theorem ak8:SlLaysF0.n6 Try.prog aiJ:=⟨by kernel_rfl,
 ⟨Try.f65.name,by kernel_rfl,Try.func65.trans (congrArg some (by kernel_rfl))⟩,
 ⟨Try.f90.name,by kernel_rfl,Try.func90.trans (congrArg some (by kernel_rfl))⟩,
 Try.func83.trans (congrArg some (by kernel_rfl)),
 ⟨Try.f113.name,by kernel_rfl,Try.func113.trans (congrArg some (by kernel_rfl))⟩,
 ⟨Try.f114.name,by kernel_rfl,Try.func114.trans (congrArg some (by kernel_rfl))⟩,
 ⟨Try.f115.name,by kernel_rfl,Try.func115.trans (congrArg some (by kernel_rfl))⟩,
 ⟨Try.f116.name,by kernel_rfl,Try.func116.trans (congrArg some (by kernel_rfl))⟩,
 ⟨Try.f117.name,by kernel_rfl,Try.func117.trans (congrArg some (by kernel_rfl))⟩,
 ⟨Try.f118.name,by kernel_rfl,Try.func118.trans (congrArg some (by kernel_rfl))⟩,
 ⟨Try.f119.name,by kernel_rfl,Try.func119.trans (congrArg some (by kernel_rfl))⟩,
 ⟨Try.f120.name,by kernel_rfl,Try.func120.trans (congrArg some (by kernel_rfl))⟩,
 Try.func107.trans (congrArg some (by kernel_rfl)),
 Try.func108.trans (congrArg some (by kernel_rfl)),
 ⟨Try.f135.name,by kernel_rfl,Try.func135.trans (congrArg some (by kernel_rfl))⟩,
 Try.func126.trans (congrArg some (by kernel_rfl)),
 Try.func127.trans (congrArg some (by kernel_rfl)),
 ⟨Try.f136.name,by kernel_rfl,Try.func136.trans (congrArg some (by kernel_rfl))⟩,
 ⟨Try.f137.name,by kernel_rfl,Try.func137.trans (congrArg some (by kernel_rfl))⟩,
 ⟨Try.f152.name,by kernel_rfl,Try.func152.trans (congrArg some (by kernel_rfl))⟩,
 Try.underlying0,
 Try.isAgg0,
 Try.sizeOf0,
 Try.zeroValue0,
 Try.underlying3,
 Try.isAgg3,
 Try.sizeOf3,
 Try.zeroValue3,
 Try.underlying4,
 Try.isAgg4,
 Try.sizeOf4,
 Try.zeroValue4,
 Try.underlying5,
 Try.isAgg5,
 Try.sizeOf5,
 Try.zeroValue5,
 Try.underlying9,
 Try.isAgg9,
 Try.sizeOf9,
 Try.zeroValue9,
 Try.underlying53,
 Try.isAgg53,
 Try.sizeOf53,
 Try.zeroValue53,
 Try.underlying56,
 Try.isAgg56,
 Try.sizeOf56,
 Try.zeroValue56,
 Try.underlying114,
 Try.isAgg114,
 Try.sizeOf114,
 Try.zeroValue114,
 Try.underlying148,
 Try.isAgg148,
 Try.sizeOf148,
 Try.zeroValue148,
 Try.underlying149,
 Try.isAgg149,
 Try.sizeOf149,
 Try.zeroValue149,
 Try.underlying103,
 Try.isAgg103,
 Try.sizeOf103,
 Try.zeroValue103,
 Try.underlying57,
 Try.isAgg57,
 Try.sizeOf57,
 Try.zeroValue57,
 Try.underlying113,
 Try.isAgg113,
 Try.sizeOf113,
 Try.zeroValue113,
 Try.underlying168,
 Try.isAgg168,
 Try.sizeOf168,
 Try.zeroValue168,
 Try.underlying172,
 Try.isAgg172,
 Try.sizeOf172,
 Try.zeroValue172,
 Try.underlying187,
 Try.isAgg187,
 Try.sizeOf187,
 Try.zeroValue187,
 Try.underlying188,
 Try.isAgg188,
 Try.sizeOf188,
 Try.zeroValue188⟩
theorem aj1: ∀ w,(isAgg (aiJ.t 24)).run Try.prog w= .ok true w:=Try.isAgg64
theorem aj2: ∀ w,(Go.sizeOf (aiJ.t 24)).run Try.prog w= .ok 132 w:=Try.sizeOf64
def ajH (A:Alg) (H:SH) (P:SNd):Blk→Option (List Bool×Blk)
 | .vec true .pt l=>some ([A.cmp .lss (A.len l) 1000000,H.all l], .vec true .pt (P.srt l))
 | _=>none
theorem ajZ:aJ Try.prog 65 (aiW 66 (ajH aA bD eE)):=
 ai2 ak8 .pt aj1 aj2 dJ (bD.at_ 0 0) (by decide +kernel) bD.cmp ak9 alA 66 _ ajL (fun x y _ _=>⟨[],rfl,fun b hb=>by cases hb⟩) _ (fun b ob b' h=>by
  unfold ajH at h
  split at h
  ·rename_i l
   simp only[Option.some.injEq,Prod.mk.injEq] at h
   obtain⟨rfl,rfl⟩:=h
   refine⟨l,rfl,rfl,fun ho=>⟨fun x hx=>?_,?_⟩⟩
   ·have h:=ho _ (List.mem_cons_of_mem _ (List.mem_cons_self ..))
    exact List.all_eq_true.1 h x hx
   ·have h:=ho _ (List.mem_cons_self ..)
    have h:=acT h
    unfold aY at h
    omega
  ·cases h)
def alM (A:Alg) (P:SNd):List CV→List Blk→Option LW
 | [.s (.hs 0)],[.vec true .pt l]=>some ⟨[A.cmp .lss (A.len l) 1000000], .c (.s (.hs 1)),[.vec true .pt (P.cmpt l)],[.gone]⟩
 | _,_=>none
structure CpS (A:Alg) (l:List Pt) (q:Int):Prop where
 o1:A.cmp .leq 0 q=true
 o2:A.cmp .leq 0 (A.bin .sub .i64 q 1)=true
 o3:A.cmp .lss (A.bin .sub .i64 q 1) (A.len l)=true
 o4:A.cmp .leq q (A.len l)=true
 o5:A.cmp .leq (A.len l) (A.len l)=true
 ad:A.bin .add .i64 q 1=q+1
 ms:((l.length:Int) - (q+1)).toNat < ((l.length:Int) - q).toNat
 lt:q < (l.length:Int)
 nx:A.eqP (dP A l q) (dP A l (A.bin .sub .i64 q 1))=false→Cp1 zPt l (q+1)
 eq:A.eqP (dP A l q) (dP A l (A.bin .sub .i64 q 1))=true→Cp2 zPt l q q 1 l
theorem gA (l:List Pt) (k:Int):dP aA l k=gD zPt l k:=rfl
theorem al5 {l:List Pt} {q:Int} (hl:aY l < 1000000) (h:Cp1 zPt l q) (A:Alg) (hA:A=aA) (hb:A.cmp .lss q (A.len l)=true):CpS A l q:=by
 subst hA
 have hb:q < (l.length:Int):=of_decide_eq_true hb
 have hl:(l.length:Int) < 1000000:=hl
 have h0:=h.k0
 have sb:aA.bin .sub .i64 q 1=q - 1:=by show IntKind.i64.wrap _=_;rw[IntKind.wrap_i64];omega
 refine⟨bJ _ rfl _ _ (by omega),by rw[sb];exact bJ _ rfl _ _ (by omega),by rw[sb];exact bH _ rfl _ _ (by show q - 1 < (l.length:Int);omega),bJ _ rfl _ _ (by show q≤(l.length:Int);omega),bJ _ rfl _ _ (Int.le_refl _),by show IntKind.i64.wrap _=_;rw[IntKind.wrap_i64];omega,by omega,hb,fun e=>?_,fun e=>?_⟩
 ·rw[sb,gA,gA] at e
  exact ajQ h hb (of_decide_eq_false e)
 ·rw[sb,gA,gA] at e
  exact ajR h hb (of_decide_eq_true e)
structure CqT (A:Alg) (l:List Pt) (q N k i:Int) (M:List Pt):Prop where
 b1:A.cmp .leq 0 i=true
 b2:A.cmp .lss (A.iadd q i) N=true
 b3:A.cmp .leq 0 (A.iadd q i)=true
 b4:A.cmp .lss (A.iadd q i) (A.len M)=true
 b5:A.cmp .leq 0 (A.bin .sub .i64 i 1)=true
 b6:A.cmp .lss (A.iadd q (A.bin .sub .i64 i 1)) N=true
 b7:A.cmp .leq 0 (A.iadd q (A.bin .sub .i64 i 1))=true
 b8:A.cmp .lss (A.iadd q (A.bin .sub .i64 i 1)) (A.len M)=true
 b9:A.cmp .leq 0 k=true
 b10:A.cmp .lss k (A.len M)=true
 n1:A.not (A.eqP (dP A M (A.iadd q i)) (dP A M (A.iadd q (A.bin .sub .i64 i 1))))=true→Cp2 zPt l q (k+1) (i+1) (A.set M k (dP A M (A.iadd q i)))
 n0:A.not (A.eqP (dP A M (A.iadd q i)) (dP A M (A.iadd q (A.bin .sub .i64 i 1))))=false→Cp2 zPt l q k (i+1) M
 adk:A.bin .add .i64 k 1=k+1
 adi:A.bin .add .i64 i 1=i+1
 ms:((l.length:Int) - (i+1)).toNat < ((l.length:Int) - i).toNat
theorem al7 {l:List Pt} {q N k i:Int} {M:List Pt} (hl:aY l < 1000000) (hN:N=(l.length:Int)) (h:Cp2 zPt l q k i M) (A:Alg) (hA:A=aA) (hb:A.cmp .lss i (A.isub N q)=true):CqT A l q N k i M:=by
 subst hA hN
 have hb:i < (l.length:Int) - q:=of_decide_eq_true hb
 have hl:(l.length:Int) < 1000000:=hl
 have h1:=h.b1;have h2:=h.i1;have h3:=h.k1;have h4:=h.k2
 have hM:(M.length:Int)=(l.length:Int):=by rw[h.len]
 have sb:aA.bin .sub .i64 i 1=i - 1:=by show IntKind.i64.wrap _=_;rw[IntKind.wrap_i64];omega
 have ia: ∀ x y,aA.iadd x y=x+y:=fun _ _=>rfl
 have ln:aA.len M=(l.length:Int):=hM
 have hn: ∀ b:Bool,aA.not b= !b:=fun b=>rfl
 rw[show(CqT aA l q (l.length:Int) k i M)↔CqT aA l q (l.length:Int) k i M from Iff.rfl]
 refine⟨bJ _ rfl _ _ (by omega),?_,?_,?_,?_,?_,?_,?_,bJ _ rfl _ _ (by omega),?_,fun e=>?_,fun e=>?_,by show IntKind.i64.wrap _=_;rw[IntKind.wrap_i64];omega,by show IntKind.i64.wrap _=_;rw[IntKind.wrap_i64];omega,by omega⟩
 ·rw[ia];exact bH _ rfl _ _ (by omega)
 ·rw[ia];exact bJ _ rfl _ _ (by omega)
 ·rw[ia,ln];exact bH _ rfl _ _ (by omega)
 ·rw[sb];exact bJ _ rfl _ _ (by omega)
 ·rw[sb,ia];exact bH _ rfl _ _ (by omega)
 ·rw[sb,ia];exact bJ _ rfl _ _ (by omega)
 ·rw[sb,ia,ln];exact bH _ rfl _ _ (by omega)
 ·rw[ln];exact bH _ rfl _ _ (by omega)
 ·rw[sb,hn,Bool.not_eq_true',ia,ia,gA,gA] at e
  exact akG h (by omega) (of_decide_eq_false e)
 ·rw[sb,hn,Bool.not_eq_false',ia,ia,gA,gA] at e
  exact ajS h (by omega) (of_decide_eq_true e)
structure CqE (A:Alg) (P:SNd) (l:List Pt) (N k:Int) (M:List Pt):Prop where
 c0:A.cmp .leq 0 0=true
 c1:A.cmp .leq 0 k=true
 c2:A.cmp .leq k (A.len M)=true
 c3:A.cmp .leq (A.len M) (A.len M)=true
 c4:A.cmp .lss k (A.len M)=true
 d2:A.cmp .leq k (A.len (A.app (A.sub M 0 k) (A.app (A.rep (A.isub (A.len M) k) ⟨⟨⟨false,A.zD⟩,⟨false,A.zD⟩⟩,⟨⟨false,A.zD⟩,⟨false,A.zD⟩⟩⟩) (A.sub M (A.len M) (A.len M)))))=true
 p0:0≤k
 p1:k≤((A.app (A.sub M 0 k) (A.app (A.rep (A.isub (A.len M) k) ⟨⟨⟨false,A.zD⟩,⟨false,A.zD⟩⟩,⟨⟨false,A.zD⟩,⟨false,A.zD⟩⟩⟩) (A.sub M (A.len M) (A.len M)))).length:Int)
 e:(A.app (A.sub M 0 k) (A.app (A.rep (A.isub (A.len M) k) ⟨⟨⟨false,A.zD⟩,⟨false,A.zD⟩⟩,⟨⟨false,A.zD⟩,⟨false,A.zD⟩⟩⟩) (A.sub M (A.len M) (A.len M)))).take k.toNat=P.cmpt l
theorem al6 {l:List Pt} {q N k i:Int} {M:List Pt} (hl:aY l < 1000000) (hN:N=(l.length:Int)) (h:Cp2 zPt l q k i M) (A:Alg) (hA:A=aA) (P:SNd) (hP:P=eE) (hb:A.cmp .lss i (A.isub N q)=false):CqE A P l N k M:=by
 subst hA hN hP
 have hb: ¬ i < (l.length:Int) - q:=of_decide_eq_false hb
 have hM:(M.length:Int)=(l.length:Int):=by rw[h.len]
 have h3:=h.k1
 obtain⟨e1,e2⟩:=akF h (by omega)
 have ln:aA.len M=(M.length:Int):=rfl
 have hk:k≤(((M.take k.toNat).drop (0:Int).toNat++((List.replicate (aA.isub (aA.len M) k).toNat zPt)++(aA.sub M (aA.len M) (aA.len M)))).length:Int):=by
  rw[List.length_append,Int.toNat_zero,List.drop_zero,List.length_take];omega
 refine⟨bJ _ rfl _ _ (Int.le_refl _),bJ _ rfl _ _ (by omega),bJ _ rfl _ _ (by rw[ln];omega),bJ _ rfl _ _ (Int.le_refl _),bH _ rfl _ _ (by rw[ln];omega),bJ _ rfl _ _ hk,by omega,hk,?_⟩
 rw[← show M.take k.toNat=eE.cmpt l from e2]
 exact akH (by omega) (by omega) _ _
theorem ajY:aJ Try.prog 67 (aR [.a (.sw .pt)] aA (alM aA eE)):=by
 refine aW (un:=⟨false,some [0,2,3,4,5,8,13,25,32,44]⟩) tok nF aL (fn:=Try.f67) ?_
 intro w Wr args bs r hg ho hWr A L k hA hL hk
 obtain⟨P,hP⟩:=exE eE
 try rw[← hP]
 try rw[← hA]
 unfold alM at hg
 split at hg <;> cases hg
 rename_i l
 have hlen:aY l < 1000000:=acT (aG ho).1
 clear ho
 have lt2:A.cmp .lss (A.len l) 2=true→l=P.cmpt l:=fun h=>by
  subst hA hP
  have h:(l.length:Int) < 2:=of_decide_eq_true h
  exact akN (by omega)
 have ge2:A.cmp .lss (A.len l) 2=false→Cp1 zPt l 1:=fun h=>by
  subst hA
  have h: ¬ (l.length:Int) < 2:=of_decide_eq_false h
  exact ajP (by omega)
 cbv
 repeat' with_reducible first | (intro hb;cbv) | refine UM ?_ ?_
 ·have e:=lt2 hb
  subst hP
  exact hk _ _ (bW.whole rfl rfl rfl (fun ρ=>rfl) rfl e)
 have i0:=ge2 hb
 refine hL _ _ _ (aQ (un:=⟨false,some [0,2,3,4,5,8,13,25,32,44]⟩) tok nF aL (fun q:Int=>⟨[(3,⟨[], .c (.s (.int .i64 q))⟩),(2,⟨[], .c (.s .nils)⟩),(0,⟨[], .c (.s (.hs 0))⟩)],[(0, .vec true .pt l)],1⟩)
  (fun q=>Cp1 zPt l q) (fun q=>((l.length:Int) - q).toNat) 1 i0 ?_ (fun _ i hi=>by have:=hWr i hi;simp at this;show i < 1;omega) ?_)
 ·exact⟨⟨⟨rfl,rfl,fun _=>rfl⟩,⟨rfl,rfl,fun _=>rfl⟩,⟨rfl,rfl,fun _=>rfl⟩,trivial⟩,⟨aF rfl,trivial⟩,rfl,rfl⟩
 clear i0 lt2 ge2
 intro q hJ A2 L2 k2 hA2 hL2 hnext hexit hret
 have st:=fun hb=>al5 hlen hJ A2 hA2 hb
 have en:A2.cmp .lss q (A2.len l)=false→l=P.cmpt l:=fun hb=>by
  subst hA2 hP
  have hb: ¬ q < (l.length:Int):=of_decide_eq_false hb
  exact akE hJ hb
 clear hJ
 cbv
 repeat' with_reducible first | (intro hb;cbv) | refine UM ?_ ?_
 all_goals first | exact(st (by assumption)).o1 | assumption | exact(st (by assumption)).o2 | exact(st (by assumption)).o3 | exact(st (by assumption)).o4 | exact(st (by assumption)).o5 | skip
 rotate_left
 ·have st:=st (by assumption)
  refine hnext _ (q+1) (st.nx hb) st.ms ?_
  have ead:=st.ad
  subst hA2 hA
  exact⟨⟨⟨rfl,rfl,leI ead⟩,⟨rfl,rfl,fun _=>rfl⟩,⟨rfl,rfl,fun _=>rfl⟩,trivial⟩,⟨aF rfl,trivial⟩,rfl,rfl⟩
 ·have e:=en hb
  apply hexit
  clear hexit hnext hret st en
  subst hP
  cbv
  exact hk _ _ (bW.whole rfl rfl rfl (fun ρ=>rfl) rfl e)
 have st:=st (by assumption)
 have hq:=st.lt
 have i1:=st.eq hb
 clear st en
 refine hL2 _ _ _ (aQ (un:=⟨false,some [0,2,3,4,5,8,13,25,32,44]⟩) tok nF aL (fun p:Int×Int×List Pt=>⟨[(5,⟨[], .c (.s (.int .i64 p.2.1))⟩),(4,⟨[], .c (.s (.hw 0 132 q (A2.len l)))⟩),(3,⟨[], .c (.s (.int .i64 p.1))⟩),(2,⟨[], .c (.s .nils)⟩),(0,⟨[], .c (.s (.hs 0))⟩)],[(0, .vec true .pt p.2.2)],1⟩)
  (fun p=>Cp2 zPt l q p.1 p.2.1 p.2.2) (fun p=>((l.length:Int) - p.2.1).toNat) (q,1,l) i1 ?_ (fun _ i hi=>by have:=hWr i hi;simp at this;show i < 1;omega) ?_)
 ·exact⟨⟨⟨rfl,rfl,fun _=>rfl⟩,⟨rfl,rfl,fun _=>rfl⟩,⟨rfl,rfl,fun _=>rfl⟩,⟨rfl,rfl,fun _=>rfl⟩,⟨rfl,rfl,fun _=>rfl⟩,trivial⟩,⟨aF rfl,trivial⟩,rfl,rfl⟩
 clear i1
 rintro⟨k,i,M⟩ hJ A3 L3 k3 hA3 hL3 hnext2 hexit2 hret2
 have hN:A2.len l=(l.length:Int):=by subst hA2;rfl
 have st:=fun hb=>al7 (A:=A3) hlen hN hJ hA3 hb
 have en:=fun hb=>al6 (A:=A3) (P:=P) hlen hN hJ hA3 hP hb
 have g1:A3.cmp .leq 0 q=true:=bJ _ hA3 _ _ (by have:=hJ.b1;omega)
 have g2:A3.cmp .leq q (A2.len l)=true:=bJ _ hA3 _ _ (by rw[hN];omega)
 have g3:A3.cmp .leq (A2.len l) (A3.len M)=true:=bJ _ hA3 _ _ (by rw[hN];subst hA3;show _≤(M.length:Int);rw[hJ.len];exact Int.le_refl _)
 clear hJ
 cbv
 repeat' with_reducible first | (intro hb;cbv) | refine UM ?_ ?_
 all_goals first | exact g1 | exact g2 | exact g3 | (have st:=st (by assumption);first | exact st.b1 | exact st.b2 | exact st.b3 | exact st.b4 | exact st.b5 | exact st.b6 | exact st.b7 | exact st.b8 | exact st.b9 | exact st.b10) | skip
 ·have st:=st (by assumption)
  refine hnext2 _ (k+1,i+1,_) (st.n1 hb) st.ms ?_
  have e1:=st.adk
  have e2:=st.adi
  subst hA3 hA2 hA
  exact⟨⟨⟨rfl,rfl,leI e2⟩,⟨rfl,rfl,fun _=>rfl⟩,⟨rfl,rfl,leI e1⟩,⟨rfl,rfl,fun _=>rfl⟩,⟨rfl,rfl,fun _=>rfl⟩,trivial⟩,⟨aF rfl,trivial⟩,rfl,rfl⟩
 ·have st:=st (by assumption)
  refine hnext2 _ (k,i+1,M) (st.n0 hb) st.ms ?_
  have e2:=st.adi
  subst hA3 hA2 hA
  exact⟨⟨⟨rfl,rfl,leI e2⟩,⟨rfl,rfl,fun _=>rfl⟩,⟨rfl,rfl,fun _=>rfl⟩,⟨rfl,rfl,fun _=>rfl⟩,⟨rfl,rfl,fun _=>rfl⟩,trivial⟩,⟨aF rfl,trivial⟩,rfl,rfl⟩
 ·have en:=en hb
  have eA:A3=A2:=hA3.trans hA2.symm
  apply hexit2
  clear hexit2 hnext2 hret2 hexit hnext st
  subst eA
  cbv
  repeat' with_reducible first | (intro hb;cbv) | refine UM ?_ ?_
  all_goals first | exact en.c0 | exact en.c1 | exact en.c2 | exact en.c3 | exact en.c4 | exact en.d2 | skip
  apply hret
  clear hret
  cbv
  subst hA2 hP
  exact hk _ _ (bW.win rfl rfl rfl rfl (fun ρ=>rfl) rfl en.p0 en.p1 en.e)
def nA1 (A:Alg) (H:SH) (P:SNd):List (Nat×bU):=(65,(aiW 66 (ajH A H P))) :: (67,aR [.a (.sw .pt)] A (alM A P)) :: ([])
theorem alO:COK Try.prog (aN (nA1 aA bD eE)):=aB ajZ (aB ajY (bC))
end Go.Eng
