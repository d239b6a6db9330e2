
import Derived.Test.YtlonkgccgccieaaNB0
import Derived.Test.YtlonkgccgccieaaSpecQ4
set_option linter.all false
set_option exponentiation.threshold 3000
set_option maxRecDepth 100000
set_option maxHeartbeats 4000000
namespace Go.Eng
open Go.Proofs
def akO (A:Alg):List CV→List Blk→Option LW
 | [.s (.int .u8 a), .s (.int .u8 b)],[]=>some ⟨[A.cmp .leq 0 a,A.cmp .lss a 256,A.cmp .leq 0 b,A.cmp .lss b 256], .c (.s (.bool true)),[],[]⟩
 | _,_=>none
def alZ (A:Alg) (a:Int):Int:=A.bin .add .i64 (A.wrap .i64 (A.bin .rem .u8 a 6)) 1
theorem ak7 {A:Alg} (hA:A=aA) {a:Int} (h0:0≤a) (h1:a < 256): ∃ w,alZ A a=w∧1≤w∧w≤6:=by
 subst hA
 refine⟨_,rfl,?_⟩
 have e:aA.bin .rem .u8 a 6=a.tmod 6:=rfl
 have t:a.tmod 6=a % 6:=Int.tmod_eq_emod_of_nonneg h0
 unfold alZ
 rw[e,t]
 have w1:aA.wrap .i64 (a % 6)=a % 6:=by show IntKind.i64.wrap _=_;rw[IntKind.wrap_i64];omega
 rw[w1]
 have w2:aA.bin .add .i64 (a % 6) 1=a % 6+1:=by show IntKind.i64.wrap _=_;rw[IntKind.wrap_i64];omega
 rw[w2]
 omega
structure NoJ (H:SH) (w h:Int) (k:Int) (M:List PcR):Prop where
 k0:0≤k
 k1:k≤w
 e:M=aiQ H h k.toNat
structure NiJ (H:SH) (w h k:Int) (j:Int) (M:List PcR):Prop where
 j0:0≤j
 j1:j≤h
 e:M=aiQ H h k.toNat++akD H k j.toNat
structure NoS (H:SH) (w h k:Int) (M:List PcR):Prop where
 k1:k < w
 i0:NiJ H w h k 0 M
theorem amD {H:SH} {w h k:Int} {M:List PcR} (h0:1≤h) (hJ:NoJ H w h k M) (A:Alg) (hA:A=aA) (hb:A.cmp .lss k w=true):NoS H w h k M:=by
 subst hA
 obtain⟨k0,k1,e⟩:=hJ
 have hb:k < w:=of_decide_eq_true hb
 exact⟨hb,Int.le_refl _,by omega,by rw[e,show(0:Int).toNat=0 from rfl,akD,List.append_nil]⟩
theorem amC {H:SH} {w h k:Int} {M:List PcR} (hJ:NoJ H w h k M) (A:Alg) (hA:A=aA) (hb:A.cmp .lss k w=false):M=aiQ H h w.toNat:=by
 subst hA
 obtain⟨k0,k1,e⟩:=hJ
 have hb: ¬ k < w:=of_decide_eq_false hb
 rw[e,show k=w by omega]
structure NiS (A:Alg) (H:SH) (w h k j:Int) (M:List PcR):Prop where
 c1:A.cmp .leq (-9223372036854775808) k=true
 c2:A.cmp .lss k 9223372036854775808=true
 c3:A.cmp .leq (-9223372036854775808) j=true
 c4:A.cmp .lss j 9223372036854775808=true
 c5:A.cmp .leq (-9223372036854775808) (A.bin .add .i64 k 1)=true
 c6:A.cmp .lss (A.bin .add .i64 k 1) 9223372036854775808=true
 c7:A.cmp .leq (-9223372036854775808) (A.bin .add .i64 j 1)=true
 c8:A.cmp .lss (A.bin .add .i64 j 1) 9223372036854775808=true
 cap:A.cmp .leq (A.iadd (A.len M) (A.len [((0,0,0,⟨H.whole k,H.whole (A.bin .add .i64 k 1)⟩,⟨H.whole j,H.whole (A.bin .add .i64 j 1)⟩,⟨H.whole j,H.whole (A.bin .add .i64 j 1)⟩,()):PcR)])) 1000000=true
 nx:NiJ H w h k (j+1) (A.app M [((0,0,0,⟨H.whole k,H.whole (A.bin .add .i64 k 1)⟩,⟨H.whole j,H.whole (A.bin .add .i64 j 1)⟩,⟨H.whole j,H.whole (A.bin .add .i64 j 1)⟩,()):PcR)])
 ad:A.bin .add .i64 j 1=j+1
 ms:(h - (j+1)).toNat < (h - j).toNat
theorem amA {H:SH} {w h k j:Int} {M:List PcR} (w1:w≤6) (h1:h≤6) (k0:0≤k) (k1:k < w) (hJ:NiJ H w h k j M) (A:Alg) (hA:A=aA) (hb:A.cmp .lss j h=true):NiS A H w h k j M:=by
 subst hA
 obtain⟨j0,j1,e⟩:=hJ
 have hb:j < h:=of_decide_eq_true hb
 have hl:M.length≤100:=by
  rw[e,List.length_append,aiN,aiR]
  have:=Nat.mul_le_mul (show k.toNat≤6 by omega) (show h.toNat≤6 by omega)
  omega
 have a1:aA.bin .add .i64 k 1=k+1:=by show IntKind.i64.wrap _=_;rw[IntKind.wrap_i64];omega
 have a2:aA.bin .add .i64 j 1=j+1:=by show IntKind.i64.wrap _=_;rw[IntKind.wrap_i64];omega
 refine⟨bJ _ rfl _ _ (by omega),bH _ rfl _ _ (by omega),bJ _ rfl _ _ (by omega),bH _ rfl _ _ (by omega),by rw[a1];exact bJ _ rfl _ _ (by omega),by rw[a1];exact bH _ rfl _ _ (by omega),by rw[a2];exact bJ _ rfl _ _ (by omega),by rw[a2];exact bH _ rfl _ _ (by omega),?_,⟨by omega,by omega,?_⟩,a2,by omega⟩
 ·rw[a1,a2]
  have hs:(M.length:Int)+1≤1000000:=by omega
  exact bJ _ rfl _ _ hs
 ·rw[a1,a2]
  have e1:(j+1).toNat=j.toNat+1:=by omega
  have e2:((j.toNat:Nat):Int)=j:=Int.toNat_of_nonneg j0
  rw[e1,akD,e2, ← List.append_assoc, ← e]
  rfl
structure NiE (A:Alg) (H:SH) (w h k:Int) (M:List PcR):Prop where
 nx:NoJ H w h (k+1) M
 ad:A.bin .add .i64 k 1=k+1
 ms:(w - (k+1)).toNat < (w - k).toNat
theorem al9 {H:SH} {w h k j:Int} {M:List PcR} (w1:w≤6) (k0:0≤k) (k1:k < w) (hJ:NiJ H w h k j M) (A:Alg) (hA:A=aA) (hb:A.cmp .lss j h=false):NiE A H w h k M:=by
 subst hA
 obtain⟨j0,j1,e⟩:=hJ
 have hb: ¬ j < h:=of_decide_eq_false hb
 refine⟨⟨by omega,by omega,?_⟩,by show IntKind.i64.wrap _=_;rw[IntKind.wrap_i64];omega,by omega⟩
 have e1:(k+1).toNat=k.toNat+1:=by omega
 have e2:((k.toNat:Nat):Int)=k:=Int.toNat_of_nonneg k0
 rw[e,e1,aiQ,e2,show j=h by omega]
structure NzF (A:Alg) (w h:Int) (M:List PcR) (p:List Pt):Prop where
 o1:A.cmp .lss (A.len M) 10000=true
 nl:A.cmp .neq (A.len p) (A.bin .mul .i64 (A.bin .add .i64 w 1) (A.bin .add .i64 h 1))=false
 g:alG p w h
 b:aY p≤49
theorem amE (A:Alg) (hA:A=aA) (H:SH) (hH:H=bD) (I:SP) (hI:I=f7) (P:SNd) (hP:P=eE) {w h:Int} {M:List PcR} (w0:1≤w) (w1:w≤6) (h0:1≤h) (h1:h≤6) (e:M=aiQ H h w.toNat):NzF A w h M (I.srt (P.cors M)):=by
 subst hA hH hI hP
 have g:alG (f7.srt (eE.cors M)) w h:=by rw[e];exact ajV w0 w1 h0 h1
 have hl:M.length≤36:=by
  rw[e,aiN]
  have:=Nat.mul_le_mul (show w.toNat≤6 by omega) (show h.toNat≤6 by omega)
  omega
 have a1:aA.bin .add .i64 w 1=w+1:=by show IntKind.i64.wrap _=_;rw[IntKind.wrap_i64];omega
 have a2:aA.bin .add .i64 h 1=h+1:=by show IntKind.i64.wrap _=_;rw[IntKind.wrap_i64];omega
 have m0:(w+1)*(h+1)≤7*7:=by
  have h2:=Int.mul_le_mul (show w+1≤7 by omega) (show h+1≤7 by omega) (by omega) (by omega)
  exact h2
 have m1:0≤(w+1)*(h+1):=Int.mul_nonneg (by omega) (by omega)
 have a3:aA.bin .mul .i64 (w+1) (h+1)=(w+1)*(h+1):=by
  show IntKind.i64.wrap _=_;rw[IntKind.wrap_i64]
  generalize (w+1)*(h+1)=z at m0 m1 ⊢
  omega
 have hs:(M.length:Int) < 10000:=by omega
 refine⟨bH _ rfl _ _ hs,?_,g,by rw[g.len];exact m0⟩
 rw[a1,a2,a3]
 show(aY _ != _)=false
 rw[g.len];simp
structure NkS (A:Alg) (H:SH) (h:Int) (p:List Pt) (k:Int):Prop where
 o1:A.cmp .leq 0 k=true
 o2:A.cmp .lss k (A.len p)=true
 nz:A.cmp .neq (A.bin .add .i64 h 1) 0=true
 c1:A.cmp .leq (-9223372036854775808) (A.bin .quo .i64 k (A.bin .add .i64 h 1))=true
 c2:A.cmp .lss (A.bin .quo .i64 k (A.bin .add .i64 h 1)) 9223372036854775808=true
 c3:A.cmp .leq (-9223372036854775808) (A.bin .rem .i64 k (A.bin .add .i64 h 1))=true
 c4:A.cmp .lss (A.bin .rem .i64 k (A.bin .add .i64 h 1)) 9223372036854775808=true
 bad:A.not (A.eqP (dP A p k) (H.at_ (A.bin .quo .i64 k (A.bin .add .i64 h 1)) (A.bin .rem .i64 k (A.bin .add .i64 h 1))))=false
 nx:0≤k+1∧k+1≤aY p
 ad:A.bin .add .i64 k 1=k+1
 ms:(aY p - (k+1)).toNat < (aY p - k).toNat
theorem amB {w h:Int} {p:List Pt} (h0:1≤h) (h1:h≤6) (g:alG p w h) (hl:aY p≤49) {k:Int} (k0:0≤k∧k≤aY p) (A:Alg) (hA:A=aA) (H:SH) (hH:H=bD) (hb:A.cmp .lss k (A.len p)=true):NkS A H h p k:=by
 subst hA hH
 obtain⟨k0,k1⟩:=k0
 have hb:k < aY p:=of_decide_eq_true hb
 have a2:aA.bin .add .i64 h 1=h+1:=by show IntKind.i64.wrap _=_;rw[IntKind.wrap_i64];omega
 have q0:0≤k / (h+1):=Int.ediv_nonneg k0 (by omega)
 have q1:k / (h+1)≤k:=Int.ediv_le_self _ k0
 have r0:=Int.emod_nonneg k (show h+1≠0 by omega)
 have r1:=Int.emod_lt_of_pos k (show 0 < h+1 by omega)
 have a3:aA.bin .quo .i64 k (h+1)=k / (h+1):=by
  show IntKind.i64.wrap (k.tdiv (h+1))=_
  rw[Int.tdiv_eq_ediv_of_nonneg k0,IntKind.wrap_i64];omega
 have a4:aA.bin .rem .i64 k (h+1)=k % (h+1):=Int.tmod_eq_emod_of_nonneg k0
 have e:=g.at_ k.toNat (by unfold aY at hb;omega)
 rw[Int.toNat_of_nonneg k0] at e
 rw[show(NkS aA bD h p k)↔NkS aA bD h p k from Iff.rfl]
 refine⟨bJ _ rfl _ _ k0,bH _ rfl _ _ hb,?_,?_,?_,?_,?_,?_,⟨by omega,by omega⟩,by show IntKind.i64.wrap _=_;rw[IntKind.wrap_i64];omega,by omega⟩
 ·rw[a2];show(h+1 != 0)=true;rw[bne_iff_ne];omega
 ·rw[a2,a3];exact bJ _ rfl _ _ (by omega)
 ·rw[a2,a3];exact bH _ rfl _ _ (by omega)
 ·rw[a2,a4];exact bJ _ rfl _ _ (by omega)
 ·rw[a2,a4];exact bH _ rfl _ _ (by omega)
 ·rw[a2,a3,a4]
  have:aA.eqP (dP aA p k) (bD.at_ (k / (h+1)) (k % (h+1)))=true:=decide_eq_true e
  rw[this];rfl
def nB3 (A:Alg) (H:SH) (I:SP) (P:SNd):List (Nat×bU):=(35,aR [] A (aiD)) :: (41,aC [.v] A (qO A H)) :: (42,aR [.a (.s (.row [.int .i64, .int .i64, .int .i64, .P, .P, .P]))] A (ajT A I P)) :: (43,aC [.v, .v] A (FD A H)) :: ([])
theorem ajX:COK Try.prog (aN (nB3 aA bD f7 eE)):=aB aiI (aB rC (aB ajK (aB HZ (bC))))
theorem ai4:aJ Try.prog 10 (aR [.a .v, .a .v] aA (akO aA)):=by
 refine aW (un:=⟨false,some [0,1,4,5,6,7,8,9,10,11,12,13,14,15,17,28,33,66,70,86]⟩) tok ajX aL (fn:=Try.f10) ?_
 intro w Wr args bs r hg ho hWr A L k hA hL hk
 obtain⟨H,hH⟩:=exE bD
 obtain⟨I,hI⟩:=exE f7
 obtain⟨P,hP⟩:=exE eE
 try rw[← hH]
 try rw[← hI]
 try rw[← hP]
 try rw[← hA]
 unfold akO at hg
 split at hg <;> cases hg
 rename_i a b
 have a1:0≤a:=of_decide_eq_true (aG ho).1
 have a2:a < 256:=of_decide_eq_true (aG (aG ho).2).1
 have b1:0≤b:=of_decide_eq_true (aG (aG (aG ho).2).2).1
 have b2:b < 256:=of_decide_eq_true (aG (aG (aG (aG ho).2).2).2).1
 clear ho
 obtain⟨w,ew,w0,w1⟩:=ak7 hA a1 a2
 obtain⟨h,eh,h0,h1⟩:=ak7 hA b1 b2
 clear a1 a2 b1 b2
 unfold alZ at ew eh
 cbv
 repeat' with_reducible first | (intro hb;cbv) | refine UM ?_ ?_
 ·exfalso;subst hA;cases hb
 all_goals first | exact bJ A hA _ _ (by omega) | exact bH A hA _ _ (by omega) | ((try subst hA);(try subst hS);(try subst hR);(try subst hX);(try subst hC);(try subst hV);(try subst hT);(try subst hM);(try subst hF);(try subst hH);(try subst hK);(try subst hJ);(try subst hE);(try subst hD);(try subst hU);(try subst hW);(try subst hI);(try subst hP);decide +kernel) | skip
 have i0:NoJ H w h 0 []:=⟨Int.le_refl _,by omega,rfl⟩
 refine hL _ _ _ (gM (un:=⟨false,some [0,1,4,5,6,7,8,9,10,11,12,13,14,15,17,28,33,66,70,86]⟩) tok ajX aL 0 (fun i hi=>by have:=hWr i hi;simp at this) (fun p:Int×List PcR=>⟨[(8,⟨[], .c (.s (.int .i64 p.1))⟩),(7,⟨[], .c (.s (.hs 0))⟩),(6,⟨[], .c (.s (.int .i64 h))⟩),(5,⟨[], .c (.s (.int .i64 w))⟩),(4,⟨[], .c (.s (.tt false))⟩)],[(0, .vec true (.row [.int .i64, .int .i64, .int .i64, .P, .P, .P]) p.2)],1⟩)
  (fun p=>NoJ H w h p.1 p.2) (fun p=>(w - p.1).toNat) (0,[]) i0 [(0, .nils)] ?_ (fun _=>Nat.zero_le _) ?_)
 ·exact⟨⟨⟨rfl,rfl,fun _=>rfl⟩,⟨rfl,rfl,fun _=>rfl⟩,⟨rfl,rfl,leI eh⟩,⟨rfl,rfl,leI ew⟩,⟨rfl,rfl,fun _=>rfl⟩,trivial⟩,⟨rfl,trivial⟩,rfl,rfl,rfl,rfl⟩
 clear i0
 rintro⟨k,M⟩ hJ2 A2 L2 k2 hA2 hL2 hnext hexit hret
 have eA:A2=A:=hA2.trans hA.symm
 subst eA
 have hJ2:NoJ H w h k M:=hJ2
 have st:=fun hb=>amD h0 hJ2 A2 hA2 hb
 have en:=fun hb=>amC hJ2 A2 hA2 hb
 have kk0:0≤k:=hJ2.k0
 clear hJ2
 rw[← hA2, ← hH, ← hI, ← hP]
 cbv
 repeat' with_reducible first | (intro hb;cbv) | refine UM ?_ ?_
 ·have so:=st (by assumption)
  clear st
  refine hL2 _ _ _ (gM (un:=⟨false,some [0,1,4,5,6,7,8,9,10,11,12,13,14,15,17,28,33,66,70,86]⟩) tok ajX aL 0 (fun i hi=>by have:=hWr i hi;simp at this) (fun p:Int×List PcR=>⟨[(9,⟨[], .c (.s (.int .i64 p.1))⟩),(8,⟨[], .c (.s (.int .i64 k))⟩),(7,⟨[], .c (.s (.hs 0))⟩),(6,⟨[], .c (.s (.int .i64 h))⟩),(5,⟨[], .c (.s (.int .i64 w))⟩),(4,⟨[], .c (.s (.tt false))⟩)],[(0, .vec true (.row [.int .i64, .int .i64, .int .i64, .P, .P, .P]) p.2)],1⟩)
   (fun p=>NiJ H w h k p.1 p.2) (fun p=>(h - p.1).toNat) (0,M) so.i0 [] ?_ (fun _=>Nat.zero_le _) ?_)
  ·exact⟨⟨⟨rfl,rfl,fun _=>rfl⟩,⟨rfl,rfl,fun _=>rfl⟩,⟨rfl,rfl,fun _=>rfl⟩,⟨rfl,rfl,fun _=>rfl⟩,⟨rfl,rfl,fun _=>rfl⟩,⟨rfl,rfl,fun _=>rfl⟩,trivial⟩,⟨⟨rfl,rfl,rfl,rfl,fun h=>h⟩,trivial⟩,rfl,rfl,rfl,rfl⟩
  rintro⟨j,N⟩ hJ3 A3 L3 k3 hA3 hL3 hnext3 hexit3 hret3
  have eA:A3=A2:=hA3.trans hA2.symm
  subst eA
  have hJ3:NiJ H w h k j N:=hJ3
  have hk1:k < w:=so.k1
  have st3:=fun hb=>amA w1 h1 kk0 hk1 hJ3 A3 hA3 hb
  have en3:=fun hb=>al9 w1 kk0 hk1 hJ3 A3 hA3 hb
  clear hJ3
  rw[← hA3, ← hH, ← hI, ← hP]
  cbv
  repeat' with_reducible first | (intro hb;cbv) | refine UM ?_ ?_
  all_goals first | (have st3:=st3 (by assumption);first | exact st3.c1 | exact st3.c2 | exact st3.c3 | exact st3.c4 | exact st3.c5 | exact st3.c6 | exact st3.c7 | exact st3.c8 | exact st3.cap) | skip
  ·have st3:=st3 (by assumption)
   have nx:=st3.nx
   have ems:=st3.ms
   have ead:=st3.ad
   subst hA3
   first | (refine hnext3 _ (j+1,_) [(0, .hs 2)] nx ems ?_;exact⟨⟨⟨rfl,rfl,leI ead⟩,⟨rfl,rfl,fun _=>rfl⟩,⟨rfl,rfl,fun _=>rfl⟩,⟨rfl,rfl,fun _=>rfl⟩,⟨rfl,rfl,fun _=>rfl⟩,⟨rfl,rfl,fun _=>rfl⟩,trivial⟩,⟨⟨rfl,rfl,rfl,rfl,fun h=>h⟩,trivial⟩,rfl,rfl,rfl,rfl⟩) | (refine hnext3 _ (j+1,_) [(0, .hs 5)] nx ems ?_;exact⟨⟨⟨rfl,rfl,leI ead⟩,⟨rfl,rfl,fun _=>rfl⟩,⟨rfl,rfl,fun _=>rfl⟩,⟨rfl,rfl,fun _=>rfl⟩,⟨rfl,rfl,fun _=>rfl⟩,⟨rfl,rfl,fun _=>rfl⟩,trivial⟩,⟨⟨rfl,rfl,rfl,rfl,fun h=>h⟩,trivial⟩,rfl,rfl,rfl,rfl⟩) | (refine hnext3 _ (j+1,_) [(0, .hs 6)] nx ems ?_;exact⟨⟨⟨rfl,rfl,leI ead⟩,⟨rfl,rfl,fun _=>rfl⟩,⟨rfl,rfl,fun _=>rfl⟩,⟨rfl,rfl,fun _=>rfl⟩,⟨rfl,rfl,fun _=>rfl⟩,⟨rfl,rfl,fun _=>rfl⟩,trivial⟩,⟨⟨rfl,rfl,rfl,rfl,fun h=>h⟩,trivial⟩,rfl,rfl,rfl,rfl⟩) | (refine hnext3 _ (j+1,_) [(0, .hs 7)] nx ems ?_;exact⟨⟨⟨rfl,rfl,leI ead⟩,⟨rfl,rfl,fun _=>rfl⟩,⟨rfl,rfl,fun _=>rfl⟩,⟨rfl,rfl,fun _=>rfl⟩,⟨rfl,rfl,fun _=>rfl⟩,⟨rfl,rfl,fun _=>rfl⟩,trivial⟩,⟨⟨rfl,rfl,rfl,rfl,fun h=>h⟩,trivial⟩,rfl,rfl,rfl,rfl⟩)
  ·have en3:=en3 (by assumption)
   apply hexit3
   clear hexit3 hnext3 hret3 st3
   cbv
   refine hnext _ (k+1,N) [] en3.nx en3.ms ?_
   have ead:=en3.ad
   subst hA3
   exact⟨⟨⟨rfl,rfl,leI ead⟩,⟨rfl,rfl,fun _=>rfl⟩,⟨rfl,rfl,fun _=>rfl⟩,⟨rfl,rfl,fun _=>rfl⟩,⟨rfl,rfl,fun _=>rfl⟩,trivial⟩,⟨⟨rfl,rfl,rfl,rfl,fun h=>h⟩,trivial⟩,rfl,rfl,rfl,rfl⟩
 ·have e:=en hb
  apply hexit
  clear hexit hnext hret st en
  have z:=amE A2 hA2 H hH I hI P hP w0 w1 h0 h1 e
  clear e
  cbv
  repeat' with_reducible first | (intro hb;cbv) | refine UM ?_ ?_
  all_goals first | exact z.o1 | skip
  ·exfalso
   have e2:=hb.symm.trans z.nl
   cases e2
  have g:=z.g
  have gb:=z.b
  clear z
  refine hL _ _ _ (aQ (un:=⟨false,some [0,1,4,5,6,7,8,9,10,11,12,13,14,15,17,28,33,66,70,86]⟩) tok ajX aL (fun k:Int=>⟨[(15,⟨[], .c (.s (.int .i64 k))⟩),(14,⟨[], .c (.s (.hs 1))⟩),(6,⟨[], .c (.s (.int .i64 h))⟩),(4,⟨[], .c (.s (.tt false))⟩)],[(1, .vec true .pt (I.srt (P.cors M)))],2⟩)
   (fun k=>0≤k∧k≤aY (I.srt (P.cors M))) (fun k=>(aY (I.srt (P.cors M)) - k).toNat) 0 ⟨Int.le_refl _,Int.natCast_nonneg _⟩ ?_ (fun _ i hi=>by have:=hWr i hi;simp at this) ?_)
  ·exact⟨⟨⟨rfl,rfl,fun _=>rfl⟩,⟨rfl,rfl,fun _=>rfl⟩,⟨rfl,rfl,fun _=>rfl⟩,⟨rfl,rfl,fun _=>rfl⟩,trivial⟩,⟨aF rfl,trivial⟩,rfl,rfl⟩
  rintro j hJ3 A3 L3 k3 hA3 hL3 hnext3 hexit3 hret3
  have eA:A3=A2:=hA3.trans hA2.symm
  subst eA
  have st3:=fun hb=>amB h0 h1 g gb hJ3 A3 hA3 H hH hb
  clear hJ3
  rw[← hA3, ← hH, ← hI, ← hP]
  cbv
  repeat' with_reducible first | (intro hb;cbv) | refine UM ?_ ?_
  all_goals first | (have st3:=st3 (by assumption);first | exact st3.o1 | exact st3.o2 | exact st3.nz | exact st3.c1 | exact st3.c2 | exact st3.c3 | exact st3.c4) | skip
  ·exfalso
   have st3:=st3 (by assumption)
   have e2:=hb.symm.trans st3.bad
   cases e2
  ·have st3:=st3 (by assumption)
   refine hnext3 _ (j+1) st3.nx st3.ms ?_
   have ead:=st3.ad
   subst hA3
   exact⟨⟨⟨rfl,rfl,leI ead⟩,⟨rfl,rfl,fun _=>rfl⟩,⟨rfl,rfl,fun _=>rfl⟩,⟨rfl,rfl,fun _=>rfl⟩,trivial⟩,⟨aF rfl,trivial⟩,rfl,rfl⟩
  ·apply hexit3
   clear hexit3 hnext3 hret3 st3
   cbv
   exact hk _ _ (bW.pure rfl rfl fun ρ=>dT rfl)
end Go.Eng
