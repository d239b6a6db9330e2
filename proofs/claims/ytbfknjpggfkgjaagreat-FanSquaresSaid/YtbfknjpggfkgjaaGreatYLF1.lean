
import Derived.Test.YtbfknjpggfkgjaaGreatYLF0
import Derived.Test.YtbfknjpggfkgjaaGreatYCXA
import Derived.Test.YtbfknjpggfkgjaaGreatSpecRB
set_option linter.all false
set_option exponentiation.threshold 3000
set_option maxRecDepth 100000
set_option maxHeartbeats 4000000
namespace Go.Eng
open Go.Proofs
def asL (A:Alg):List CV→List Blk→Option LW
 | [.s (.int .u8 a), .s (.int .u8 b), .s (.int .u8 c)],[]=>some ⟨[A.cmp .leq 0 a,A.cmp .lss a 256,A.cmp .leq 0 b,A.cmp .lss b 256,A.cmp .leq 0 c,A.cmp .lss c 256], .c (.s (.bool true)),[],[]⟩
 | _,_=>none
def asE (A:Alg) (m a:Int):Int:=A.bin .add .i64 (A.wrap .i64 (A.bin .rem .u8 a m)) 1
theorem ap1 {A:Alg} (hA:A=aA) {m a:Int} (m0:1≤m) (m1:m≤10) (h0:0≤a) (h1:a < 256): ∃ w,asE A m a=w∧1≤w∧w≤m:=by
 subst hA
 refine⟨_,rfl,?_⟩
 have e:aA.bin .rem .u8 a m=a.tmod m:=rfl
 have t:a.tmod m=a % m:=Int.tmod_eq_emod_of_nonneg h0
 have r0:=Int.emod_nonneg a (show m≠0 by omega)
 have r1:=Int.emod_lt_of_pos a (show 0 < m by omega)
 unfold asE
 rw[e,t]
 have w1:aA.wrap .i64 (a % m)=a % m:=by show IntKind.i64.wrap _=_;rw[IntKind.wrap_i64];omega
 rw[w1]
 have w2:aA.bin .add .i64 (a % m) 1=a % m+1:=by show IntKind.i64.wrap _=_;rw[IntKind.wrap_i64];omega
 rw[w2]
 omega
structure SoJ (a b s:Int) (i:Int) (M:List PcR):Prop where
 k0:0≤i
 k1:i≤a
 e:M=(z4 b.toNat i.toNat).map fun z=>sqR z.1 z.2 s
structure SiJ (a b s i:Int) (k:Int) (M:List PcR):Prop where
 j0:0≤k
 j1:k≤b
 e:M=(z4 b.toNat i.toNat++aoJ i k.toNat).map fun z=>sqR z.1 z.2 s
structure SoS (a b s i:Int) (M:List PcR):Prop where
 k1:i < a
 i0:SiJ a b s i 0 M
theorem as5 {a b s i:Int} {M:List PcR} (b0:1≤b) (hJ:SoJ a b s i M) (A:Alg) (hA:A=aA) (hb:A.cmp .lss i a=true):SoS a b s i M:=by
 subst hA
 obtain⟨k0,k1,e⟩:=hJ
 have hb:i < a:=of_decide_eq_true hb
 exact⟨hb,Int.le_refl _,by omega,by rw[e,show(0:Int).toNat=0 from rfl,aoJ,List.append_nil]⟩
theorem as4 {a b s i:Int} {M:List PcR} (hJ:SoJ a b s i M) (A:Alg) (hA:A=aA) (hb:A.cmp .lss i a=false):M=(z4 b.toNat a.toNat).map fun z=>sqR z.1 z.2 s:=by
 subst hA
 obtain⟨k0,k1,e⟩:=hJ
 have hb: ¬ i < a:=of_decide_eq_false hb
 rw[e,show i=a by omega]
def mA (A:Alg) (i s:Int):Int:=A.bin .mul .i64 i s
def pA (A:Alg) (i s:Int):Int:=A.bin .add .i64 (A.bin .mul .i64 i s) s
def pcA (A:Alg) (H:SH) (i k s:Int):PcR:=(0,0,0,⟨H.whole (mA A i s),H.whole (pA A i s)⟩,⟨H.whole (mA A k s),H.whole (pA A k s)⟩,⟨H.whole (mA A k s),H.whole (pA A k s)⟩,())
structure SiS (A:Alg) (H:SH) (a b s i k:Int) (M:List PcR):Prop where
 c1:A.cmp .leq (-9223372036854775808) (mA A i s)=true
 c2:A.cmp .lss (mA A i s) 9223372036854775808=true
 c3:A.cmp .leq (-9223372036854775808) (mA A k s)=true
 c4:A.cmp .lss (mA A k s) 9223372036854775808=true
 c5:A.cmp .leq (-9223372036854775808) (pA A i s)=true
 c6:A.cmp .lss (pA A i s) 9223372036854775808=true
 c7:A.cmp .leq (-9223372036854775808) (pA A k s)=true
 c8:A.cmp .lss (pA A k s) 9223372036854775808=true
 cap:A.cmp .leq (A.iadd (A.len M) (A.len [pcA A H i k s])) 1000000=true
 nx:SiJ a b s i (k+1) (A.app M [pcA A H i k s])
 ad:A.bin .add .i64 k 1=k+1
 ms:(b - (k+1)).toNat < (b - k).toNat
theorem Xf {i s:Int} (i0:0≤i) (i1:i≤4) (s0:1≤s) (s1:s≤5):aA.bin .mul .i64 i s=i*s∧aA.bin .add .i64 (i*s) s=i*s+s∧0≤i*s∧i*s≤20:=by
 have a:=Int.mul_nonneg i0 (show 0≤s by omega)
 have b:=Int.mul_le_mul i1 s1 (by omega) (show(0:Int)≤4 by decide)
 have e:aA.bin .mul .i64 i s=i*s:=by
  show IntKind.i64.wrap (i*s)=_;rw[IntKind.wrap_i64]
  generalize i*s=z at a b ⊢
  omega
 have e2:aA.bin .add .i64 (i*s) s=i*s+s:=by
  show IntKind.i64.wrap (i*s+s)=_;rw[IntKind.wrap_i64]
  generalize i*s=z at a b ⊢
  omega
 exact⟨e,e2,a,by omega⟩
theorem as3 {a b s i k:Int} {M:List PcR} (a1:a≤4) (b1:b≤4) (s0:1≤s) (s1:s≤5) (i0:0≤i) (i1:i < a) (hJ:SiJ a b s i k M) (A:Alg) (hA:A=aA) (H:SH) (hH:H=bD) (hb:A.cmp .lss k b=true):SiS A H a b s i k M:=by
 subst hA hH
 obtain⟨j0,j1,e⟩:=hJ
 have hb:k < b:=of_decide_eq_true hb
 obtain⟨x1,x2,x3,x4⟩:=Xf i0 (show i≤4 by omega) s0 s1
 obtain⟨y1,y2,y3,y4⟩:=Xf j0 (show k≤4 by omega) s0 s1
 have e1:mA aA i s=i*s:=x1
 have e2:mA aA k s=k*s:=y1
 have e3:pA aA i s=i*s+s:=by unfold pA;rw[x1,x2]
 have e4:pA aA k s=k*s+s:=by unfold pA;rw[y1,y2]
 have hl:M.length≤100:=by
  rw[e,List.length_map,List.length_append,amK,am5]
  have:=Nat.mul_le_mul (show i.toNat≤4 by omega) (show b.toNat≤4 by omega)
  omega
 have ep:pcA aA bD i k s=sqR i k s:=by unfold pcA sqR;rw[e1,e2,e3,e4]
 generalize i*s=u at x3 x4 e1 e3
 generalize k*s=v at y3 y4 e2 e4
 refine⟨by rw[e1];exact bJ _ rfl _ _ (by omega),by rw[e1];exact bH _ rfl _ _ (by omega),by rw[e2];exact bJ _ rfl _ _ (by omega),by rw[e2];exact bH _ rfl _ _ (by omega),by rw[e3];exact bJ _ rfl _ _ (by omega),by rw[e3];exact bH _ rfl _ _ (by omega),by rw[e4];exact bJ _ rfl _ _ (by omega),by rw[e4];exact bH _ rfl _ _ (by omega),?_,⟨by omega,by omega,?_⟩,by show IntKind.i64.wrap _=_;rw[IntKind.wrap_i64];omega,by omega⟩
 ·have hs:(M.length:Int)+1≤1000000:=by omega
  exact bJ _ rfl _ _ hs
 ·have f1:(k+1).toNat=k.toNat+1:=by omega
  have f2:((k.toNat:Nat):Int)=k:=Int.toNat_of_nonneg j0
  rw[ep,f1,aoJ,f2, ← List.append_assoc,List.map_append, ← e]
  rfl
structure SiE (A:Alg) (a b s i:Int) (M:List PcR):Prop where
 nx:SoJ a b s (i+1) M
 ad:A.bin .add .i64 i 1=i+1
 ms:(a - (i+1)).toNat < (a - i).toNat
theorem as2 {a b s i k:Int} {M:List PcR} (a1:a≤4) (i0:0≤i) (i1:i < a) (hJ:SiJ a b s i k M) (A:Alg) (hA:A=aA) (hb:A.cmp .lss k b=false):SiE A a b s i M:=by
 subst hA
 obtain⟨j0,j1,e⟩:=hJ
 have hb: ¬ k < b:=of_decide_eq_false hb
 refine⟨⟨by omega,by omega,?_⟩,by show IntKind.i64.wrap _=_;rw[IntKind.wrap_i64];omega,by omega⟩
 have e1:(i+1).toNat=i.toNat+1:=by omega
 have e2:((i.toNat:Nat):Int)=i:=Int.toNat_of_nonneg i0
 rw[e,e1,z4,e2,show k=b by omega]
def mlA (A:Alg) (a b:Int):Int:=A.bin .mul .i64 (A.bin .mul .i64 4 a) b
def mpA (A:Alg) (a b:Int):Int:=A.bin .add .i64 (A.bin .mul .i64 (A.bin .add .i64 a 1) (A.bin .add .i64 b 1)) (A.bin .mul .i64 a b)
structure SzF (A:Alg) (I:SP) (P:SNd) (a b:Int) (M:List PcR) (p:List Pt) (T:List I3):Prop where
 o1:A.cmp .lss (A.len M) 10000=true
 o2:A.cmp .lss (A.len (I.srt (P.cors M))) 1000=true
 o3:A.cmp .lss (A.len (P.all (I.srt (P.cors M)) M)) 30000=true
 nl:A.ite (A.cmp .neq (A.len T) (mlA A a b)) true (A.cmp .neq (A.len p) (mpA A a b))=false
 in_: ∀ t,t∈T→((0≤t.1∧t.1 < aY p)∧(0≤t.2.1∧t.2.1 < aY p)∧0≤t.2.2∧t.2.2 < aY p)∧acJ (pC p t.1) (pC p t.2.1) (pC p t.2.2)=true
 lt:(T.length:Int) < 1000
theorem as6 (A:Alg) (hA:A=aA) (I:SP) (hI:I=f7) (P:SNd) (hP:P=dT) {a b s:Int} {M:List PcR} (a0:1≤a) (a1:a≤4) (b0:1≤b) (b1:b≤4) (s0:1≤s) (s1:s≤5) (e:M=(z4 b.toNat a.toNat).map fun z=>sqR z.1 z.2 s) :
  SzF A I P a b M (I.srt (P.pts (P.all (I.srt (P.cors M)) M))) (P.srt3 (P.tris (I.srt (P.pts (P.all (I.srt (P.cors M)) M))) (P.all (I.srt (P.cors M)) M))):=by
 subst hA hI hP
 have na:(a.toNat:Int)=a:=Int.toNat_of_nonneg (by omega)
 have nb:(b.toNat:Int)=b:=Int.toNat_of_nonneg (by omega)
 have F:=Vh (a:=a.toNat) (b:=b.toNat) s0 s1 (by omega) (by omega) (by omega) (by omega)
 rw[← e] at F
 have hZ: ∀ z,z∈z4 b.toNat a.toNat→aoH z.1 z.2:=fun z hz=>by have:=amY hz;exact⟨by omega,by omega⟩
 have hall:=ao6 s0 s1 hZ
 rw[← e] at hall
 have hm:a.toNat*b.toNat≤4*4:=Nat.mul_le_mul (by omega) (by omega)
 have hM:M.length=a.toNat*b.toNat:=by rw[e,List.length_map,amK]
 have hla:(dT.all (f7.srt (dT.cors M)) M).length=4*(a.toNat*b.toNat):=by rw[hall,List.length_map,apO,amK]
 have hn:(f7.srt (dT.cors M)).length≤4*M.length:=Nat.le_trans (acO _ _) (aiC M M.length)
 have z1:a*b=((a.toNat*b.toNat:Nat):Int):=by rw[Int.natCast_mul,na,nb]
 have z2:(a+1)*(b+1)=(((a.toNat+1)*(b.toNat+1):Nat):Int):=by rw[Int.natCast_mul,Int.natCast_add,Int.natCast_add,na,nb];rfl
 have hm2:(a.toNat+1)*(b.toNat+1)≤5*5:=Nat.mul_le_mul (by omega) (by omega)
 have w1:aA.bin .mul .i64 4 a=4*a:=by show IntKind.i64.wrap _=_;rw[IntKind.wrap_i64];omega
 have w2:aA.bin .mul .i64 (4*a) b=4*(a*b):=by
  show IntKind.i64.wrap (4*a*b)=_
  rw[Int.mul_assoc,z1,IntKind.wrap_i64];omega
 have w3:aA.bin .add .i64 a 1=a+1:=by show IntKind.i64.wrap _=_;rw[IntKind.wrap_i64];omega
 have w4:aA.bin .add .i64 b 1=b+1:=by show IntKind.i64.wrap _=_;rw[IntKind.wrap_i64];omega
 have w5:aA.bin .mul .i64 (a+1) (b+1)=(a+1)*(b+1):=by
  show IntKind.i64.wrap ((a+1)*(b+1))=_
  rw[z2,IntKind.wrap_i64];omega
 have w6:aA.bin .mul .i64 a b=a*b:=by
  show IntKind.i64.wrap (a*b)=_
  rw[z1,IntKind.wrap_i64];omega
 have w7:aA.bin .add .i64 ((a+1)*(b+1)) (a*b)=(a+1)*(b+1)+a*b:=by
  show IntKind.i64.wrap ((a+1)*(b+1)+a*b)=_
  rw[z1,z2,IntKind.wrap_i64];omega
 have g1:(M.length:Int) < 10000:=by omega
 have g2:((f7.srt (dT.cors M)).length:Int) < 1000:=by omega
 have g3:((dT.all (f7.srt (dT.cors M)) M).length:Int) < 30000:=by omega
 have lT:((ap9 M).length:Int)=4*(a*b):=by rw[F.lt,z1];omega
 have lP:((aoI M).length:Int)=(a+1)*(b+1)+a*b:=by rw[F.lp,z1,z2];omega
 refine⟨bH _ rfl _ _ g1,bH _ rfl _ _ g2,bH _ rfl _ _ g3,?_,F.in_,by show((ap9 M).length:Int) < 1000;omega⟩
 have it: ∀ u v:Bool,aA.ite u true v=(u||v):=fun u v=>by cases u <;> rfl
 unfold mlA mpA
 rw[w1,w2,w3,w4,w5,w6,w7,it]
 show((((ap9 M).length:Int) != 4*(a*b))||(((aoI M).length:Int) != (a+1)*(b+1)+a*b))=false
 rw[lT,lP]
 simp
def as9 (A:Alg) (T:List I3) (k:Int):I3:=A.get T k (0,0,0)
def atA (A:Alg) (p:List Pt) (t:I3):Bool:=A.ite (A.ite (A.ite (A.ite (A.ite (A.cmp .lss t.1 0) true (A.cmp .lss t.2.1 0)) true (A.cmp .lss t.2.2 0)) true (A.cmp .geq t.1 (A.len p))) true (A.cmp .geq t.2.1 (A.len p))) true (A.cmp .geq t.2.2 (A.len p))
structure SkS (A:Alg) (H:SH) (E:SE) (p:List Pt) (T:List I3) (k:Int):Prop where
 o1:A.cmp .leq 0 k=true
 o2:A.cmp .lss k (A.len T)=true
 bad:atA A p (as9 A T k)=false
 a1:A.cmp .leq 0 (as9 A T k).1=true
 a2:A.cmp .lss (as9 A T k).1 (A.len p)=true
 b1:A.cmp .leq 0 (as9 A T k).2.1=true
 b2:A.cmp .lss (as9 A T k).2.1 (A.len p)=true
 c1:A.cmp .leq 0 (as9 A T k).2.2=true
 c2:A.cmp .lss (as9 A T k).2.2 (A.len p)=true
 bad2:A.ite (A.not (H.all [dP A p (as9 A T k).1,dP A p (as9 A T k).2.1,dP A p (as9 A T k).2.2])) true (A.not (E.good (dP A p (as9 A T k).1) (dP A p (as9 A T k).2.1) (dP A p (as9 A T k).2.2)))=false
 nx:0≤k+1∧k+1≤(T.length:Int)
 ad:A.bin .add .i64 k 1=k+1
 ms:((T.length:Int) - (k+1)).toNat < ((T.length:Int) - k).toNat
theorem atB {p:List Pt} {T:List I3} (hin: ∀ t,t∈T→((0≤t.1∧t.1 < aY p)∧(0≤t.2.1∧t.2.1 < aY p)∧0≤t.2.2∧t.2.2 < aY p)∧acJ (pC p t.1) (pC p t.2.1) (pC p t.2.2)=true) (hl:(T.length:Int) < 1000) {k:Int} (k0:0≤k∧k≤(T.length:Int)) (A:Alg) (hA:A=aA) (H:SH) (hH:H=bD) (E:SE) (hE:E=aoF) (hb:A.cmp .lss k (A.len T)=true):SkS A H E p T k:=by
 subst hA hH hE
 obtain⟨k0,k1⟩:=k0
 have hb:k < (T.length:Int):=of_decide_eq_true hb
 have hm:as9 aA T k∈T:=by
  show T.getD k.toNat (0,0,0)∈T
  rw[List.getD_eq_getElem?_getD,List.getElem?_eq_getElem (by omega)]
  exact List.getElem_mem _
 obtain⟨⟨⟨a1,a2⟩,⟨b1,b2⟩,c1,c2⟩,g⟩:=hin _ hm
 have hall:dX [pC p (as9 aA T k).1,pC p (as9 aA T k).2.1,pC p (as9 aA T k).2.2]=true:=by
  unfold acJ at g
  exact(Bool.and_eq_true _ _ ▸ g).1
 have gp: ∀ i,dP aA p i=pC p i:=fun _=>rfl
 rw[show(SkS aA bD aoF p T k)↔SkS aA bD aoF p T k from Iff.rfl]
 refine⟨bJ _ rfl _ _ k0,bH _ rfl _ _ hb,?_,bJ _ rfl _ _ a1,bH _ rfl _ _ a2,bJ _ rfl _ _ b1,bH _ rfl _ _ b2,bJ _ rfl _ _ c1,bH _ rfl _ _ c2,?_,⟨by omega,by omega⟩,by show IntKind.i64.wrap _=_;rw[IntKind.wrap_i64];omega,by omega⟩
 ·unfold atA
  rw[show aA.cmp .lss (as9 aA T k).1 0=false from decide_eq_false (by omega),show aA.cmp .lss (as9 aA T k).2.1 0=false from decide_eq_false (by omega),show aA.cmp .lss (as9 aA T k).2.2 0=false from decide_eq_false (by omega),
   show aA.cmp .geq (as9 aA T k).1 (aA.len p)=false from decide_eq_false (show ¬ _ ≥ aY p by omega),show aA.cmp .geq (as9 aA T k).2.1 (aA.len p)=false from decide_eq_false (show ¬ _ ≥ aY p by omega),show aA.cmp .geq (as9 aA T k).2.2 (aA.len p)=false from decide_eq_false (show ¬ _ ≥ aY p by omega)]
  rfl
 ·rw[gp,gp,gp,show bD.all [pC p (as9 aA T k).1,pC p (as9 aA T k).2.1,pC p (as9 aA T k).2.2]=true from hall,show aoF.good (pC p (as9 aA T k).1) (pC p (as9 aA T k).2.1) (pC p (as9 aA T k).2.2)=true from g]
  rfl
def lF2 (A:Alg) (H:SH) (I:SP) (P:SNd) (E:SE):List (Nat×bU):=(8,aR [] A (amV)) :: (21,aC [.v] A (qO A H)) :: (19,aR [.a (.s (.row [.int .i64, .int .i64, .int .i64, .P, .P, .P]))] A (an2 A I P)) :: (27,aC [.v, .v, .v] A (apP H E)) :: ([])
theorem apV:COK Tryz.prog (aN (lF2 aA bD f7 dT aoF)):=aB am2 (aB rC (aB anK (aB aoV (bC))))
theorem aoR:aJ Tryz.prog 5 (aR [.a .v, .a .v, .a .v] aA (asL aA)):=by
 refine aW (un:=⟨false,some [0,1,2,6,7,8,9,10,11,12,13,14,15,16,17,18,19,20,21,23,38,43,101,106,150,178]⟩) tok apV aL (fn:=Tryz.f5) ?_
 intro w Wr args bs r hg ho hWr A L k hA hL hk
 obtain⟨E,hE⟩:=exE aoF
 obtain⟨H,hH⟩:=exE bD
 obtain⟨I,hI⟩:=exE f7
 obtain⟨P,hP⟩:=exE dT
 try rw[← hE]
 try rw[← hH]
 try rw[← hI]
 try rw[← hP]
 try rw[← hA]
 unfold asL at hg
 split at hg <;> cases hg
 rename_i a b c
 have a1:0≤a:=of_decide_eq_true (aG ho).1
 have a2:a < 256:=of_decide_eq_true (aG (aG ho).2).1
 have b1:0≤b:=of_decide_eq_true (aG (aG (aG ho).2).2).1
 have b2:b < 256:=of_decide_eq_true (aG (aG (aG (aG ho).2).2).2).1
 have c1:0≤c:=of_decide_eq_true (aG (aG (aG (aG (aG ho).2).2).2).2).1
 have c2:c < 256:=of_decide_eq_true (aG (aG (aG (aG (aG (aG ho).2).2).2).2).2).1
 clear ho
 obtain⟨u,eu,u0,u1⟩:=ap1 hA (m:=4) (by decide) (by decide) a1 a2
 obtain⟨v,ev,v0,v1⟩:=ap1 hA (m:=4) (by decide) (by decide) b1 b2
 obtain⟨s,es,s0,s1⟩:=ap1 hA (m:=5) (by decide) (by decide) c1 c2
 clear a1 a2 b1 b2 c1 c2
 unfold asE at eu ev es
 cbv
 repeat' with_reducible first | (intro hb;cbv) | refine UM ?_ ?_
 ·exfalso;subst hA;cases hb
 all_goals first | exact bJ A hA _ _ (by omega) | exact bH A hA _ _ (by omega) | ((try subst hA);(try subst hS);(try subst hR);(try subst hX);(try subst hC);(try subst hV);(try subst hT);(try subst hM);(try subst hF);(try subst hH);(try subst hK);(try subst hJ);(try subst hE);(try subst hD);(try subst hU);(try subst hW);(try subst hI);(try subst hP);decide +kernel) | skip
 have i0:SoJ u v s 0 []:=⟨Int.le_refl _,by omega,rfl⟩
 refine hL _ _ _ (gM (un:=⟨false,some [0,1,2,6,7,8,9,10,11,12,13,14,15,16,17,18,19,20,21,23,38,43,101,106,150,178]⟩) tok apV aL 0 (fun i hi=>by have:=hWr i hi;simp at this) (fun p:Int×List PcR=>⟨[(11,⟨[], .c (.s (.int .i64 p.1))⟩),(10,⟨[], .c (.s (.hs 0))⟩),(9,⟨[], .c (.s (.int .i64 s))⟩),(8,⟨[], .c (.s (.int .i64 v))⟩),(7,⟨[], .c (.s (.int .i64 u))⟩),(6,⟨[], .c (.s (.tt false))⟩)],[(0, .vec true (.row [.int .i64, .int .i64, .int .i64, .P, .P, .P]) p.2)],1⟩)
  (fun p=>SoJ u v s p.1 p.2) (fun p=>(u - p.1).toNat) (0,[]) i0 [(0, .nils)] ?_ (fun _=>Nat.zero_le _) ?_)
 ·exact⟨⟨⟨rfl,rfl,fun _=>rfl⟩,⟨rfl,rfl,fun _=>rfl⟩,⟨rfl,rfl,leI es⟩,⟨rfl,rfl,leI ev⟩,⟨rfl,rfl,leI eu⟩,⟨rfl,rfl,fun _=>rfl⟩,trivial⟩,⟨rfl,trivial⟩,rfl,rfl,rfl,rfl⟩
 clear i0
 rintro⟨i,M⟩ hJ2 A2 L2 k2 hA2 hL2 hnext hexit hret
 have eA:A2=A:=hA2.trans hA.symm
 subst eA
 have hJ2:SoJ u v s i M:=hJ2
 have st:=fun hb=>as5 v0 hJ2 A2 hA2 hb
 have en:=fun hb=>as4 hJ2 A2 hA2 hb
 have kk0:0≤i:=hJ2.k0
 clear hJ2
 rw[← hA2, ← hH, ← hI, ← hP, ← hE]
 cbv
 repeat' with_reducible first | (intro hb;cbv) | refine UM ?_ ?_
 ·have so:=st (by assumption)
  clear st
  refine hL2 _ _ _ (gM (un:=⟨false,some [0,1,2,6,7,8,9,10,11,12,13,14,15,16,17,18,19,20,21,23,38,43,101,106,150,178]⟩) tok apV aL 0 (fun i hi=>by have:=hWr i hi;simp at this) (fun p:Int×List PcR=>⟨[(12,⟨[], .c (.s (.int .i64 p.1))⟩),(11,⟨[], .c (.s (.int .i64 i))⟩),(10,⟨[], .c (.s (.hs 0))⟩),(9,⟨[], .c (.s (.int .i64 s))⟩),(8,⟨[], .c (.s (.int .i64 v))⟩),(7,⟨[], .c (.s (.int .i64 u))⟩),(6,⟨[], .c (.s (.tt false))⟩)],[(0, .vec true (.row [.int .i64, .int .i64, .int .i64, .P, .P, .P]) p.2)],1⟩)
   (fun p=>SiJ u v s i p.1 p.2) (fun p=>(v - p.1).toNat) (0,M) so.i0 [] ?_ (fun _=>Nat.zero_le _) ?_)
  ·exact⟨⟨⟨rfl,rfl,fun _=>rfl⟩,⟨rfl,rfl,fun _=>rfl⟩,⟨rfl,rfl,fun _=>rfl⟩,⟨rfl,rfl,fun _=>rfl⟩,⟨rfl,rfl,fun _=>rfl⟩,⟨rfl,rfl,fun _=>rfl⟩,⟨rfl,rfl,fun _=>rfl⟩,trivial⟩,⟨⟨rfl,rfl,rfl,rfl,fun h=>h⟩,trivial⟩,rfl,rfl,rfl,rfl⟩
  rintro⟨k,N⟩ hJ3 A3 L3 k3 hA3 hL3 hnext3 hexit3 hret3
  have eA:A3=A2:=hA3.trans hA2.symm
  subst eA
  have hJ3:SiJ u v s i k N:=hJ3
  have hk1:i < u:=so.k1
  have st3:=fun hb=>as3 u1 v1 s0 s1 kk0 hk1 hJ3 A3 hA3 H hH hb
  have en3:=fun hb=>as2 u1 kk0 hk1 hJ3 A3 hA3 hb
  clear hJ3
  rw[← hA3, ← hH, ← hI, ← hP, ← hE]
  cbv
  repeat' with_reducible first | (intro hb;cbv) | refine UM ?_ ?_
  all_goals first | (have st3:=st3 (by assumption);first | exact st3.c1 | exact st3.c2 | exact st3.c3 | exact st3.c4 | exact st3.c5 | exact st3.c6 | exact st3.c7 | exact st3.c8 | exact st3.cap) | skip
  ·have st3:=st3 (by assumption)
   have nx:=st3.nx
   have ems:=st3.ms
   have ead:=st3.ad
   subst hA3
   first | (refine hnext3 _ (k+1,_) [(0, .hs 6)] nx ems ?_;exact⟨⟨⟨rfl,rfl,leI ead⟩,⟨rfl,rfl,fun _=>rfl⟩,⟨rfl,rfl,fun _=>rfl⟩,⟨rfl,rfl,fun _=>rfl⟩,⟨rfl,rfl,fun _=>rfl⟩,⟨rfl,rfl,fun _=>rfl⟩,⟨rfl,rfl,fun _=>rfl⟩,trivial⟩,⟨⟨rfl,rfl,rfl,rfl,fun h=>h⟩,trivial⟩,rfl,rfl,rfl,rfl⟩) | (refine hnext3 _ (k+1,_) [(0, .hs 2)] nx ems ?_;exact⟨⟨⟨rfl,rfl,leI ead⟩,⟨rfl,rfl,fun _=>rfl⟩,⟨rfl,rfl,fun _=>rfl⟩,⟨rfl,rfl,fun _=>rfl⟩,⟨rfl,rfl,fun _=>rfl⟩,⟨rfl,rfl,fun _=>rfl⟩,⟨rfl,rfl,fun _=>rfl⟩,trivial⟩,⟨⟨rfl,rfl,rfl,rfl,fun h=>h⟩,trivial⟩,rfl,rfl,rfl,rfl⟩) | (refine hnext3 _ (k+1,_) [(0, .hs 5)] nx ems ?_;exact⟨⟨⟨rfl,rfl,leI ead⟩,⟨rfl,rfl,fun _=>rfl⟩,⟨rfl,rfl,fun _=>rfl⟩,⟨rfl,rfl,fun _=>rfl⟩,⟨rfl,rfl,fun _=>rfl⟩,⟨rfl,rfl,fun _=>rfl⟩,⟨rfl,rfl,fun _=>rfl⟩,trivial⟩,⟨⟨rfl,rfl,rfl,rfl,fun h=>h⟩,trivial⟩,rfl,rfl,rfl,rfl⟩)
  ·have en3:=en3 (by assumption)
   apply hexit3
   clear hexit3 hnext3 hret3 st3
   cbv
   refine hnext _ (i+1,N) [] en3.nx en3.ms ?_
   have ead:=en3.ad
   subst hA3
   exact⟨⟨⟨rfl,rfl,leI ead⟩,⟨rfl,rfl,fun _=>rfl⟩,⟨rfl,rfl,fun _=>rfl⟩,⟨rfl,rfl,fun _=>rfl⟩,⟨rfl,rfl,fun _=>rfl⟩,⟨rfl,rfl,fun _=>rfl⟩,trivial⟩,⟨⟨rfl,rfl,rfl,rfl,fun h=>h⟩,trivial⟩,rfl,rfl,rfl,rfl⟩
 ·have e:=en hb
  apply hexit
  clear hexit hnext hret st en
  have z:=as6 A2 hA2 I hI P hP u0 u1 v0 v1 s0 s1 e
  clear e
  have hp: ∃ p,p=I.srt (P.pts (P.all (I.srt (P.cors M)) M)):=⟨_,rfl⟩
  have hT: ∃ T,T=P.srt3 (P.tris (I.srt (P.pts (P.all (I.srt (P.cors M)) M))) (P.all (I.srt (P.cors M)) M)):=⟨_,rfl⟩
  obtain⟨p,hp⟩:=hp
  obtain⟨T,hT⟩:=hT
  rw[← hT, ← hp] at z
  cbv
  repeat' with_reducible first | (intro hb;cbv) | refine UM ?_ ?_
  all_goals first | exact z.o1 | exact z.o2 | exact z.o3 | skip
  ·exfalso
   have zn:=z.nl
   subst hp hT
   unfold mlA mpA at zn
   exact absurd (hb.symm.trans zn) (by decide)
  ·clear hb
   have i3:(0:Int)≤0∧(0:Int)≤(T.length:Int):=⟨Int.le_refl _,Int.natCast_nonneg _⟩
   refine hL _ _ _ (gM (un:=⟨false,some [0,1,2,6,7,8,9,10,11,12,13,14,15,16,17,18,19,20,21,23,38,43,101,106,150,178]⟩) tok apV aL 0 (fun i hi=>by have:=hWr i hi;simp at this) (fun j:Int=>⟨[(18,⟨[], .c (.s (.int .i64 j))⟩),(17,⟨[], .c (.s (.hp 3 0))⟩),(6,⟨[], .c (.s (.tt false))⟩)],[(3, .fix true [.s (.hs 1), .s (.hs 2), .s .nils]),(1, .vec true .pt p),(2, .vec true .i3 T)],4⟩)
    (fun j=>0≤j∧j≤(T.length:Int)) (fun j=>((T.length:Int) - j).toNat) 0 i3 [] ?_ (fun _=>Nat.zero_le _) ?_)
   ·subst hp hT
    exact⟨⟨⟨rfl,rfl,fun _=>rfl⟩,⟨rfl,rfl,fun _=>rfl⟩,⟨rfl,rfl,fun _=>rfl⟩,trivial⟩,⟨⟨rfl,rfl,fun _=>rfl⟩,⟨rfl,rfl,rfl,rfl,fun h=>h⟩,⟨rfl,rfl,rfl,rfl,fun h=>h⟩,trivial⟩,rfl,rfl,rfl,rfl⟩
   clear i3
   rintro j hj A3 L3 k3 hA3 hL3 hnext3 hexit3 hret3
   have eA:A3=A2:=hA3.trans hA2.symm
   subst eA
   have hj:0≤j∧j≤(T.length:Int):=hj
   have st:=fun hb=>atB z.in_ z.lt hj A3 hA3 H hH E hE hb
   clear hj z hp hT
   rw[← hA3, ← hH, ← hI, ← hP, ← hE]
   with_reducible refine fA fun kk hn hx=>?_
   cbv
   repeat' with_reducible first | (intro hb;cbv) | refine UM ?_ ?_
   rotate_left
   ·refine hx (.exit 4) _ (fun h=>by cases h) ?_
    clear hn hx kk st
    apply hexit3
    clear hexit3 hnext3 hret3
    cbv
    subst hA3
    exact hk _ _ (bW.pure rfl rfl fun ρ=>rfl)
   with_reducible refine hn _ ?_
   clear hn hx kk
   have st:=st (by assumption)
   with_reducible refine fA fun k4 hn4 hx4=>?_
   with_reducible refine ZM fun k5 n5 e5 x5 r5=>?_
   with_reducible refine fA fun kk hn hx=>?_
   cbv
   repeat' with_reducible first | (intro hb;cbv) | refine UM ?_ ?_
   all_goals first | (with_reducible refine hn _ ?_;clear hn hx kk) | exact st.o1 | exact st.o2 | skip
   with_reducible refine fA fun kk hn hx=>?_
   cbv
   repeat' with_reducible first | (intro hb;cbv) | refine UM ?_ ?_
   ·exact absurd (hb.symm.trans st.bad) (by decide)
   with_reducible refine hn _ ?_
   clear hn hx kk
   with_reducible refine fA fun kk hn hx=>?_
   cbv
   repeat' with_reducible first | (intro hb;cbv) | refine UM ?_ ?_
   all_goals first | (with_reducible refine hn _ ?_;clear hn hx kk) | exact st.a1 | exact st.a2 | exact st.b1 | exact st.b2 | exact st.c1 | exact st.c2 | skip
   cbv
   repeat' with_reducible first | (intro hb;cbv) | refine UM ?_ ?_
   ·exact absurd (hb.symm.trans st.bad2) (by decide)
   refine n5 _ ?_
   refine hn4 _ ?_
   clear n5 e5 x5 r5 hn4 hx4
   cbv
   have nx:=st.nx
   have ems:=st.ms
   have ead:=st.ad
   subst hA3
   refine hnext3 _ (j+1) [] nx ems ?_
   exact⟨⟨⟨rfl,rfl,leI ead⟩,⟨rfl,rfl,fun _=>rfl⟩,⟨rfl,rfl,fun _=>rfl⟩,trivial⟩,⟨⟨rfl,rfl,fun _=>rfl⟩,⟨rfl,rfl,rfl,rfl,fun h=>h⟩,⟨rfl,rfl,rfl,rfl,fun h=>h⟩,trivial⟩,rfl,rfl,rfl,rfl⟩
end Go.Eng
