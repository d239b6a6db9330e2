
import Derived.Test.YtklnlmebjeoidaaGreatYLH1
import Derived.Test.YtklnlmebjeoidaaGreatSpecP5
set_option linter.all false
set_option exponentiation.threshold 3000
set_option maxRecDepth 100000
set_option maxHeartbeats 2000000
namespace Go.Eng
open Go.Proofs
def ahS (A:Alg):List CV→List Blk→Option LW
 | [.s (.int .u8 a), .s (.int .u8 b)],[]=>some ⟨[A.cmp .leq 0 a,A.cmp .lss a 256,A.cmp .leq 0 b,A.cmp .lss b 256], .c (.s (.bool true)),[],[]⟩
 | _,_=>none
def ahN (A:Alg) (a:Int):Int:=A.bin .add .i64 (A.wrap .i64 (A.bin .rem .u8 a 6)) 1
theorem ahI {A:Alg} (hA:A=aA) {a:Int} (h0:0≤a) (h1:a < 256): ∃ w,ahN A a=w∧1≤w∧w≤6:=by
 subst hA
 refine⟨_,rfl,?_⟩
 have e:aA.bin .rem .u8 a 6=a.tmod 6:=rfl
 have t:a.tmod 6=a % 6:=Int.tmod_eq_emod_of_nonneg h0
 unfold ahN
 rw[e,t]
 have w1:aA.wrap .i64 (a % 6)=a % 6:=by show IntKind.i64.wrap _=_;rw[IntKind.wrap_i64];omega
 rw[w1]
 have w2:aA.bin .add .i64 (a % 6) 1=a % 6+1:=by show IntKind.i64.wrap _=_;rw[IntKind.wrap_i64];omega
 rw[w2]
 omega
structure GoJ (H:SH) (w h:Int) (k:Int) (M:List Pt):Prop where
 k0: -1≤k
 k1:k≤w+2
 e:M=ag6 H h (k+1).toNat
structure GiJ (H:SH) (w h k:Int) (j:Int) (M:List Pt):Prop where
 j0: -1≤j
 j1:j≤h+2
 e:M=ag6 H h (k+1).toNat++ahL H k (j+1).toNat
structure GoS (A:Alg) (H:SH) (w h k:Int) (M:List Pt):Prop where
 c1:A.cmp .leq (-9223372036854775808) k=true
 c2:A.cmp .lss k 9223372036854775808=true
 k1:k≤w+1
 i0:GiJ H w h k (-1) M
theorem ah7 {H:SH} {w h k:Int} {M:List Pt} (w1:w≤6) (h0:1≤h) (hJ:GoJ H w h k M) (A:Alg) (hA:A=aA) (hb:A.cmp .leq k (A.bin .add .i64 w 1)=true) (w0:1≤w):GoS A H w h k M:=by
 subst hA
 obtain⟨k0,k1,e⟩:=hJ
 have e1:aA.bin .add .i64 w 1=w+1:=by show IntKind.i64.wrap _=_;rw[IntKind.wrap_i64];omega
 rw[e1] at hb
 have hb:k≤w+1:=of_decide_eq_true hb
 refine⟨bJ _ rfl _ _ (by omega),bH _ rfl _ _ (by omega),hb,by omega,by omega,?_⟩
 rw[e,show(-1+1:Int).toNat=0 from rfl,ahL,List.append_nil]
theorem ah6 {H:SH} {w h k:Int} {M:List Pt} (w1:w≤6) (w0:1≤w) (hJ:GoJ H w h k M) (A:Alg) (hA:A=aA) (hb:A.cmp .leq k (A.bin .add .i64 w 1)=false):M=ag6 H h (w+3).toNat:=by
 subst hA
 obtain⟨k0,k1,e⟩:=hJ
 have e1:aA.bin .add .i64 w 1=w+1:=by show IntKind.i64.wrap _=_;rw[IntKind.wrap_i64];omega
 rw[e1] at hb
 have hb: ¬ k≤w+1:=of_decide_eq_false hb
 rw[e,show k+1=w+3 by omega]
structure GiS (A:Alg) (H:SH) (w h k j:Int) (M:List Pt):Prop where
 c1:A.cmp .leq (-9223372036854775808) j=true
 c2:A.cmp .lss j 9223372036854775808=true
 cap:A.cmp .leq (A.iadd (A.len M) (A.len [H.at_ k j])) 1000000=true
 nx:GiJ H w h k (j+1) (A.app M [H.at_ k j])
 ad:A.bin .add .i64 j 1=j+1
 ms:(h+2 - (j+1)).toNat < (h+2 - j).toNat
theorem ah4 {H:SH} {w h k j:Int} {M:List Pt} (w1:w≤6) (h0:1≤h) (h1:h≤6) (k0: -1≤k) (k1:k≤w+1) (hJ:GiJ H w h k j M) (A:Alg) (hA:A=aA) (hb:A.cmp .leq j (A.bin .add .i64 h 1)=true):GiS A H w h k j M:=by
 subst hA
 obtain⟨j0,j1,e⟩:=hJ
 have e1:aA.bin .add .i64 h 1=h+1:=by show IntKind.i64.wrap _=_;rw[IntKind.wrap_i64];omega
 rw[e1] at hb
 have hb:j≤h+1:=of_decide_eq_true hb
 have hl:M.length≤200:=by
  rw[e,List.length_append,ag5,ag7]
  have a1:(k+1).toNat≤8:=by omega
  have a2:(h+3).toNat≤9:=by omega
  have:=Nat.mul_le_mul a1 a2
  omega
 refine⟨bJ _ rfl _ _ (by omega),bH _ rfl _ _ (by omega),bJ _ rfl _ _ (by show(M.length:Int)+1≤1000000;omega),⟨by omega,by omega,?_⟩,by show IntKind.i64.wrap _=_;rw[IntKind.wrap_i64];omega,by omega⟩
 show M++[H.at_ k j]=_
 rw[e,show(j+1+1).toNat=(j+1).toNat+1 by omega,ahL,List.append_assoc,show(((j+1).toNat:Nat):Int) - 1=j by omega]
structure GiE (A:Alg) (H:SH) (w h k:Int) (M:List Pt):Prop where
 nx:GoJ H w h (k+1) M
 ad:A.bin .add .i64 k 1=k+1
 ms:(w+2 - (k+1)).toNat < (w+2 - k).toNat
theorem ah3 {H:SH} {w h k j:Int} {M:List Pt} (w1:w≤6) (h0:1≤h) (h1:h≤6) (k0: -1≤k) (k1:k≤w+1) (hJ:GiJ H w h k j M) (A:Alg) (hA:A=aA) (hb:A.cmp .leq j (A.bin .add .i64 h 1)=false):GiE A H w h k M:=by
 subst hA
 obtain⟨j0,j1,e⟩:=hJ
 have e1:aA.bin .add .i64 h 1=h+1:=by show IntKind.i64.wrap _=_;rw[IntKind.wrap_i64];omega
 rw[e1] at hb
 have hb: ¬ j≤h+1:=of_decide_eq_false hb
 refine⟨⟨by omega,by omega,?_⟩,by show IntKind.i64.wrap _=_;rw[IntKind.wrap_i64];omega,by omega⟩
 rw[e,show(k+1+1).toNat=(k+1).toNat+1 by omega,ag6,show(((k+1).toNat:Nat):Int) - 1=k by omega,show j+1=h+3 by omega]
structure GzF (A:Alg) (H:SH) (I:SP) (w h:Int) (M:List Pt) (r:List Pt):Prop where
 o1:A.cmp .lss (A.len M) 1000=true
 nl:A.cmp .neq (A.len r) (A.bin .mul .i64 2 (A.bin .add .i64 w h))=false
 f:ahJ r w h
 i0:A.cmp .lss 0 (A.len r)=true
 i1:A.cmp .lss 1 (A.len r)=true
 z0:A.cmp .leq 0 0=true
 z1:A.cmp .leq 0 1=true
 im: ∀ c d,d=true→A.imp c d=true
 fin:A.ite (A.eqP (dP A r 0) (H.at_ 0 0)) (A.eqP (dP A r 1) (H.at_ 1 0)) false=true
theorem ah8 (A:Alg) (hA:A=aA) (H:SH) (hH:H=bD) (I:SP) (hI:I=dL) {w h:Int} {M:List Pt} (w0:1≤w) (w1:w≤6) (h0:1≤h) (h1:h≤6) (hM:M=ag6 H h (w+3).toNat) (r:List Pt) (hr:r=I.rim ⟨H.whole 0,H.whole w⟩ ⟨H.whole 0,H.whole h⟩ ⟨H.whole 0,H.whole h⟩ M):GzF A H I w h M r:=by
 subst hA hH hI
 have f:=ahT w0 w1 h0 h1
 have e:ahZ w h=r:=by rw[hr,hM];rfl
 rw[e] at f
 have hlr:aY r=(r.length:Int):=rfl
 have hlen:=f.len
 have hl:M.length≤200:=by
  rw[hM,ag5]
  have a1:(w+3).toNat≤9:=by omega
  have a2:(h+3).toNat≤9:=by omega
  have:=Nat.mul_le_mul a1 a2
  omega
 have em:aA.bin .mul .i64 2 (aA.bin .add .i64 w h)=2*(w+h):=by
  show IntKind.i64.wrap (2*IntKind.i64.wrap (w+h))=_
  have w1:IntKind.i64.wrap (w+h)=w+h:=by rw[IntKind.wrap_i64];omega
  rw[w1,IntKind.wrap_i64];omega
 have im: ∀ c d,d=true→aA.imp c d=true:=fun c d h=>by rw[h];cases c <;> rfl
 refine⟨bH _ rfl _ _ (by show(M.length:Int) < 1000;omega),?_,f,bH _ rfl _ _ (by show 0 < aY r;omega),bH _ rfl _ _ (by show 1 < aY r;omega),rfl,rfl,im,?_⟩
 ·rw[em]
  show(aY r != 2*(w+h))=false
  rw[hlen];simp
 ·have e0:aA.eqP (dP aA r 0) (bD.at_ 0 0)=true:=decide_eq_true f.p0
  have e1:aA.eqP (dP aA r 1) (bD.at_ 1 0)=true:=decide_eq_true f.p1
  rw[e0,e1];rfl
structure GkS (A:Alg) (H:SH) (r:List Pt) (k:Int):Prop where
 o1:A.cmp .leq 0 k=true
 nz:A.cmp .neq (A.len r) 0=true
 i1:A.cmp .leq 0 (nxA A r k)=true
 i2:A.cmp .lss (nxA A r k) (A.len r)=true
 bad:A.ite (A.not (H.all [dP A r k,dP A r (nxA A r k),dP A r (nxA A r k)])) true (A.not (A.eqR (H.dot (dP A r k) (dP A r (nxA A r k)) (dP A r (nxA A r k))) (H.whole 1)))=false
 w1:A.cmp .leq (-9223372036854775808) 1=true
 w2:A.cmp .lss 1 9223372036854775808=true
 im: ∀ c d,d=true→A.imp c d=true
 nx:0≤k+1∧k+1≤aY r
 ad:A.bin .add .i64 k 1=k+1
 ms:(aY r - (k+1)).toNat < (aY r - k).toNat
theorem ah5 {w h:Int} {r:List Pt} (w1:w≤6) (h1:h≤6) (f:ahJ r w h) {k:Int} (k0:0≤k∧k≤aY r) (A:Alg) (hA:A=aA) (H:SH) (hH:H=bD) (hb:A.cmp .lss k (A.len r)=true):GkS A H r k:=by
 subst hA hH
 obtain⟨k0,k1⟩:=k0
 have hb:k < aY r:=of_decide_eq_true hb
 have hlr:aY r=(r.length:Int):=rfl
 have hlen:=f.len
 have ad:aA.bin .add .i64 k 1=k+1:=by show IntKind.i64.wrap _=_;rw[IntKind.wrap_i64];omega
 have en:nxA aA r k=(k+1) % aY r:=by
  unfold nxA
  rw[ad]
  show(k+1).tmod (aY r)=_
  rw[Int.tmod_eq_emod_of_nonneg (by omega)]
 have g1:=Int.emod_nonneg (k+1) (show aY r≠0 by omega)
 have g2:=Int.emod_lt_of_pos (k+1) (show 0 < aY r by omega)
 have im: ∀ c d,d=true→aA.imp c d=true:=fun c d h=>by rw[h];cases c <;> rfl
 have st:=f.step k.toNat (by omega)
 unfold ahO at st
 rw[Int.toNat_of_nonneg k0,Bool.and_eq_true,decide_eq_true_eq] at st
 refine⟨bJ _ rfl _ _ k0,?_,by rw[en];exact bJ _ rfl _ _ g1,by rw[en];exact bH _ rfl _ _ g2,?_,bJ _ rfl _ _ (by decide),bH _ rfl _ _ (by decide),im,⟨by omega,by omega⟩,ad,by omega⟩
 ·show(aY r != 0)=true
  rw[bne_iff_ne];omega
 ·rw[en]
  have a1:bD.all [dP aA r k,dP aA r ((k+1) % aY r),dP aA r ((k+1) % aY r)]=true:=st.1
  have a2:aA.eqR (bD.dot (dP aA r k) (dP aA r ((k+1) % aY r)) (dP aA r ((k+1) % aY r))) (bD.whole 1)=true:=decide_eq_true st.2
  rw[a1,a2];rfl
def uY5 (A:Alg) (H:SH) (I:SP):List (Nat×bU):=(7,aR [] A (Zy)) :: (16,aC [.v] A (qO A H)) :: (20,aC [.v, .v] A (FD A H)) :: (11,aR [.a .v, .a (.s .pt)] A (ae8 A I)) :: (18,aC [.v, .v] A (PQ H)) :: ([])
theorem ahH:COK Tryz.prog (aN (uY5 aA bD dL)):=aB ac1 (aB rC (aB HZ (aB adB (aB agT (bC)))))
theorem ahA:aJ Tryz.prog 5 (aR [.a .v, .a .v] aA (ahS aA)):=by
 refine aW (un:=⟨false,some [0,1,4,5,6,7,8,9,10,11,12,13,14,15,17,40,46,64,68,93]⟩) tok ahH aL (fn:=Tryz.f5) ?_
 intro w Wr args bs r hg ho hWr A L k hA hL hk
 obtain⟨H,hH⟩:=exE bD
 obtain⟨I,hI⟩:=exE dL
 try rw[← hH]
 try rw[← hI]
 try rw[← hA]
 unfold ahS at hg
 split at hg <;> cases hg
 rename_i a b
 have a1:=(aG ho).1
 have a2:=(aG (aG ho).2).1
 have b1:=(aG (aG (aG ho).2).2).1
 have b2:=(aG (aG (aG (aG ho).2).2).2).1
 have a1:0≤a:=of_decide_eq_true a1
 have a2:a < 256:=of_decide_eq_true a2
 have b1:0≤b:=of_decide_eq_true b1
 have b2:b < 256:=of_decide_eq_true b2
 clear ho
 obtain⟨w,ew,w0,w1⟩:=ahI hA a1 a2
 obtain⟨h,eh,h0,h1⟩:=ahI hA b1 b2
 clear a1 a2 b1 b2
 unfold ahN at ew eh
 have ea1:A.cmp .leq (-9223372036854775808) (A.bin .add .i64 (A.wrap .i64 (A.bin .rem .u8 a 6)) 1)=true:=by rw[ew];exact bJ A hA _ _ (by omega)
 have ea2:A.cmp .lss (A.bin .add .i64 (A.wrap .i64 (A.bin .rem .u8 a 6)) 1) 9223372036854775808=true:=by rw[ew];exact bH A hA _ _ (by omega)
 have eb1:A.cmp .leq (-9223372036854775808) (A.bin .add .i64 (A.wrap .i64 (A.bin .rem .u8 b 6)) 1)=true:=by rw[eh];exact bJ A hA _ _ (by omega)
 have eb2:A.cmp .lss (A.bin .add .i64 (A.wrap .i64 (A.bin .rem .u8 b 6)) 1) 9223372036854775808=true:=by rw[eh];exact bH A hA _ _ (by omega)
 cbv
 repeat' with_reducible first | (intro hb;cbv) | refine UM ?_ ?_
 ·exfalso;subst hA;cases hb
 all_goals first | exact ea1 | exact ea2 | exact eb1 | exact eb2 | exact bJ A hA _ _ (by omega) | exact bH A hA _ _ (by omega) | skip
 have i0:GoJ H w h (-1) []:=⟨Int.le_refl _,by omega,rfl⟩
 refine hL _ _ _ (gM (un:=⟨false,some [0,1,4,5,6,7,8,9,10,11,12,13,14,15,17,40,46,64,68,93]⟩) tok ahH aL 0 (fun i hi=>by have:=hWr i hi;simp at this) (fun p:Int×List Pt=>⟨[(10,⟨[], .c (.s (.int .i64 p.1))⟩),(9,⟨[], .c (.s (.hs 2))⟩),(8,⟨[], .c (.s (.hp 1 0))⟩),(6,⟨[], .c (.s (.int .i64 h))⟩),(5,⟨[], .c (.s (.int .i64 w))⟩),(4,⟨[], .c (.s (.tt false))⟩)],[(1, .fix true [.P ⟨H.whole 0,H.whole w⟩, .P ⟨H.whole 0,H.whole h⟩, .P ⟨H.whole 0,H.whole h⟩]),(2, .vec true .pt p.2)],3⟩)
  (fun p=>GoJ H w h p.1 p.2) (fun p=>(w+2 - p.1).toNat) (-1,[]) i0 [(2, .nils)] ?_ (fun _=>Nat.zero_le _) ?_)
 ·exact⟨⟨⟨rfl,rfl,fun _=>rfl⟩,⟨rfl,rfl,fun _=>rfl⟩,⟨rfl,rfl,fun _=>rfl⟩,⟨rfl,rfl,leI eh⟩,⟨rfl,rfl,leI ew⟩,⟨rfl,rfl,fun _=>rfl⟩,trivial⟩,⟨⟨rfl,rfl,fun _=>by rw[← ew, ← eh];rfl⟩,rfl,trivial⟩,rfl,rfl,rfl,rfl⟩
 clear i0
 rintro⟨k,M⟩ hJ2 A2 L2 k2 hA2 hL2 hnext hexit hret
 have st:=fun hb=>ah7 w1 h0 hJ2 A2 hA2 hb w0
 have en:=fun hb=>ah6 w1 w0 hJ2 A2 hA2 hb
 have kk0: -1≤k:=hJ2.k0
 clear hJ2
 rw[← hA2, ← hH, ← hI]
 cbv
 repeat' with_reducible first | (intro hb;cbv) | refine UM ?_ ?_
 ·have st:=st hb
  refine hL2 _ _ _ (gM (un:=⟨false,some [0,1,4,5,6,7,8,9,10,11,12,13,14,15,17,40,46,64,68,93]⟩) tok ahH aL 0 (fun i hi=>by have:=hWr i hi;simp at this) (fun p:Int×List Pt=>⟨[(11,⟨[], .c (.s (.int .i64 p.1))⟩),(10,⟨[], .c (.s (.int .i64 k))⟩),(9,⟨[], .c (.s (.hs 2))⟩),(8,⟨[], .c (.s (.hp 1 0))⟩),(6,⟨[], .c (.s (.int .i64 h))⟩),(5,⟨[], .c (.s (.int .i64 w))⟩),(4,⟨[], .c (.s (.tt false))⟩)],[(1, .fix true [.P ⟨H.whole 0,H.whole w⟩, .P ⟨H.whole 0,H.whole h⟩, .P ⟨H.whole 0,H.whole h⟩]),(2, .vec true .pt p.2)],3⟩)
   (fun p=>GiJ H w h k p.1 p.2) (fun p=>(h+2 - p.1).toNat) (-1,M) st.i0 [] ?_ (fun _=>Nat.zero_le _) ?_)
  ·exact⟨⟨⟨rfl,rfl,fun _=>rfl⟩,⟨rfl,rfl,fun _=>rfl⟩,⟨rfl,rfl,fun _=>rfl⟩,⟨rfl,rfl,fun _=>rfl⟩,⟨rfl,rfl,fun _=>rfl⟩,⟨rfl,rfl,fun _=>rfl⟩,⟨rfl,rfl,fun _=>rfl⟩,trivial⟩,⟨⟨rfl,rfl,fun _=>rfl⟩,⟨rfl,rfl,rfl,rfl,fun h=>h⟩,trivial⟩,rfl,rfl,rfl,rfl⟩
  rintro⟨j,N⟩ hJ3 A3 L3 k3 hA3 hL3 hnext3 hexit3 hret3
  have st3:=fun hb=>ah4 w1 h0 h1 kk0 st.k1 hJ3 A3 hA3 hb
  have en3:=fun hb=>ah3 w1 h0 h1 kk0 st.k1 hJ3 A3 hA3 hb
  have cc1:=st.c1
  have cc2:=st.c2
  rw[hA2, ← hA3] at cc1 cc2
  clear hJ3
  rw[← hA3, ← hH, ← hI]
  cbv
  repeat' with_reducible first | (intro hb;cbv) | refine UM ?_ ?_
  all_goals first | exact cc1 | exact cc2 | exact(st3 (by assumption)).c1 | exact(st3 (by assumption)).c2 | exact(st3 (by assumption)).cap | skip
  ·have st3:=st3 (by assumption)
   refine hnext3 _ (j+1,_) [(2, .hs 4)] st3.nx st3.ms ?_
   have ead:=st3.ad
   subst hA3 hA2 hA
   exact⟨⟨⟨rfl,rfl,leI ead⟩,⟨rfl,rfl,fun _=>rfl⟩,⟨rfl,rfl,fun _=>rfl⟩,⟨rfl,rfl,fun _=>rfl⟩,⟨rfl,rfl,fun _=>rfl⟩,⟨rfl,rfl,fun _=>rfl⟩,⟨rfl,rfl,fun _=>rfl⟩,trivial⟩,⟨⟨rfl,rfl,fun _=>rfl⟩,⟨rfl,rfl,rfl,rfl,fun h=>h⟩,trivial⟩,rfl,rfl,rfl,rfl⟩
  ·have en3:=en3 (by assumption)
   apply hexit3
   clear hexit3 hnext3 hret3 st3 cc1 cc2
   cbv
   refine hnext _ (k+1,N) [] en3.nx en3.ms ?_
   have ead:=en3.ad
   subst hA3 hA2 hA
   exact⟨⟨⟨rfl,rfl,leI ead⟩,⟨rfl,rfl,fun _=>rfl⟩,⟨rfl,rfl,fun _=>rfl⟩,⟨rfl,rfl,fun _=>rfl⟩,⟨rfl,rfl,fun _=>rfl⟩,⟨rfl,rfl,fun _=>rfl⟩,trivial⟩,⟨⟨rfl,rfl,fun _=>rfl⟩,⟨rfl,rfl,rfl,rfl,fun h=>h⟩,trivial⟩,rfl,rfl,rfl,rfl⟩
 ·have e:=en hb
  have eA:A2=A:=hA2.trans hA.symm
  apply hexit
  clear hexit hnext hret st en
  subst eA
  have z:=ah8 A2 hA2 H hH I hI w0 w1 h0 h1 e _ rfl
  clear e
  cbv
  repeat' with_reducible first | (intro hb;cbv) | refine UM ?_ ?_
  ·exact z.o1
  ·exfalso
   have e2:=hb.symm.trans z.nl
   cases e2
  refine hL _ _ _ (aQ (un:=⟨false,some [0,1,4,5,6,7,8,9,10,11,12,13,14,15,17,40,46,64,68,93]⟩) tok ahH aL (fun k:Int=>⟨[(13,⟨[], .c (.s (.int .i64 k))⟩),(12,⟨[], .c (.s (.hs 3))⟩),(4,⟨[], .c (.s (.tt false))⟩)],[(3, .vec true .pt (I.rim ⟨H.whole 0,H.whole w⟩ ⟨H.whole 0,H.whole h⟩ ⟨H.whole 0,H.whole h⟩ M))],4⟩)
   (fun k=>0≤k∧k≤aY (I.rim ⟨H.whole 0,H.whole w⟩ ⟨H.whole 0,H.whole h⟩ ⟨H.whole 0,H.whole h⟩ M)) (fun k=>(aY (I.rim ⟨H.whole 0,H.whole w⟩ ⟨H.whole 0,H.whole h⟩ ⟨H.whole 0,H.whole h⟩ M) - k).toNat) 0 ⟨Int.le_refl _,Int.natCast_nonneg _⟩ ?_ (fun _ i hi=>by have:=hWr i hi;simp at this) ?_)
  ·exact⟨⟨⟨rfl,rfl,fun _=>rfl⟩,⟨rfl,rfl,fun _=>rfl⟩,⟨rfl,rfl,fun _=>rfl⟩,trivial⟩,⟨aF rfl,trivial⟩,rfl,rfl⟩
  rintro j hJ3 A3 L3 k3 hA3 hL3 hnext3 hexit3 hret3
  have st3:=fun hb=>ah5 w1 h1 z.f hJ3 A3 hA3 H hH hb
  clear hJ3
  rw[← hA3, ← hH, ← hI]
  cbv
  repeat' with_reducible first | (intro hb;cbv) | refine UM ?_ ?_
  all_goals first | exact(st3 (by assumption)).o1 | assumption | exact(st3 (by assumption)).nz | exact(st3 (by assumption)).i1 | exact(st3 (by assumption)).i2 | exact(st3 (by assumption)).im _ _ (st3 (by assumption)).w1 | exact(st3 (by assumption)).im _ _ (st3 (by assumption)).w2 | skip
  ·exfalso
   have e2:=hb.symm.trans (st3 (by assumption)).bad
   cases e2
  ·have st:=st3 (by assumption)
   refine hnext3 _ (j+1) st.nx st.ms ?_
   have ead:=st.ad
   subst hA3 hA2
   exact⟨⟨⟨rfl,rfl,leI ead⟩,⟨rfl,rfl,fun _=>rfl⟩,⟨rfl,rfl,fun _=>rfl⟩,trivial⟩,⟨aF rfl,trivial⟩,rfl,rfl⟩
  ·have eA:A3=A2:=hA3.trans hA2.symm
   apply hexit3
   clear hexit3 hnext3 hret3 st3
   subst eA
   cbv
   repeat' with_reducible first | (intro hb;cbv) | refine UM ?_ ?_
   all_goals first | exact z.z0 | exact z.i0 | exact z.im _ _ z.z1 | exact z.im _ _ z.i1 | exact z.im _ _ (bJ _ hA3 _ _ (by omega)) | exact z.im _ _ (bH _ hA3 _ _ (by omega)) | exact bJ _ hA3 _ _ (by omega) | exact bH _ hA3 _ _ (by omega) | skip
   exact hk _ _ (bW.pure rfl rfl fun ρ=>dB z.fin)
end Go.Eng
