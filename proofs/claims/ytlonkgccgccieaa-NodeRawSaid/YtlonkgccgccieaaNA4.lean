
import Derived.Test.YtlonkgccgccieaaNA3
import Derived.Test.YtlonkgccgccieaaCH6
set_option linter.all false
set_option exponentiation.threshold 3000
set_option maxRecDepth 100000
set_option maxHeartbeats 2000000
namespace Go.Eng
open Go.Proofs
def ajT (A:Alg) (I:SP) (P:SNd):List CV→List Blk→Option LW
 | [.s (.hs 0)],[.vec false (.row [.int .i64, .int .i64, .int .i64, .P, .P, .P]) l]=>some ⟨[A.cmp .lss (A.len l) 10000], .c (.s (.hs 1)),[.vec true .pt (I.srt (P.cors l))],[]⟩
 | _,_=>none
structure AlJ (l:List PcR) (k:Int) (M:List Pt):Prop where
 k0:0≤k
 k1:k≤(l.length:Int)
 e:M=ai9 l k.toNat
def ajU (A:Alg) (l:List PcR) (k:Int):PcR:=A.get l k (0,0,0,⟨⟨⟨false,A.zD⟩,⟨false,A.zD⟩⟩,⟨⟨false,A.zD⟩,⟨false,A.zD⟩⟩⟩,⟨⟨⟨false,A.zD⟩,⟨false,A.zD⟩⟩,⟨⟨false,A.zD⟩,⟨false,A.zD⟩⟩⟩,⟨⟨⟨false,A.zD⟩,⟨false,A.zD⟩⟩,⟨⟨false,A.zD⟩,⟨false,A.zD⟩⟩⟩,())
structure AlS (A:Alg) (I:SP) (l:List PcR) (k:Int) (M:List Pt):Prop where
 o1:A.cmp .leq 0 k=true
 c1:A.cmp .leq (A.iadd (A.len M) (A.len (I.cor (ajU A l k).2.2.2.1 (ajU A l k).2.2.2.2.1 (ajU A l k).2.2.2.2.2.1))) 1000000=true
 nx:AlJ l (k+1) (A.app M (I.cor (ajU A l k).2.2.2.1 (ajU A l k).2.2.2.2.1 (ajU A l k).2.2.2.2.2.1))
 ad:A.bin .add .i64 k 1=k+1
 ms:((l.length:Int) - (k+1)).toNat < ((l.length:Int) - k).toNat
theorem al4 {l:List PcR} {k:Int} {M:List Pt} (hl:(l.length:Int) < 10000) (h:AlJ l k M) (A:Alg) (hA:A=aA) (I:SP) (hI:I=f7) (hb:A.cmp .lss k (A.len l)=true):AlS A I l k M:=by
 subst hA hI
 obtain⟨k0,k1,e⟩:=h
 have hb:k < (l.length:Int):=of_decide_eq_true hb
 have ek:(k+1).toNat=k.toNat+1:=by omega
 have l1:=aiC l k.toNat
 have l2:=aiC l (k.toNat+1)
 have hc:ai9 l (k.toNat+1)=M++f7.cor (ajU aA l k).2.2.2.1 (ajU aA l k).2.2.2.2.1 (ajU aA l k).2.2.2.2.2.1:=by rw[e];rfl
 refine⟨bJ _ rfl _ _ k0,bJ _ rfl _ _ ?_,⟨by omega,by omega,by rw[ek,hc];rfl⟩,by show IntKind.i64.wrap _=_;rw[IntKind.wrap_i64];omega,by omega⟩
 rw[hc,List.length_append] at l2
 show(M.length:Int)+((f7.cor _ _ _).length:Int)≤1000000
 omega
structure AlE (A:Alg) (P:SNd) (l:List PcR) (M:List Pt):Prop where
 o1:A.cmp .lss (A.len M) 100000=true
 e:M=P.cors l
theorem al3 {l:List PcR} {k:Int} {M:List Pt} (hl:(l.length:Int) < 10000) (h:AlJ l k M) (A:Alg) (hA:A=aA) (P:SNd) (hP:P=eE) (hb:A.cmp .lss k (A.len l)=false):AlE A P l M:=by
 subst hA hP
 obtain⟨k0,k1,e⟩:=h
 have hb: ¬ k < (l.length:Int):=of_decide_eq_false hb
 have ek:k.toNat=l.length:=by omega
 have l1:=aiC l k.toNat
 refine⟨bH _ rfl _ _ (by show(M.length:Int) < 100000;rw[e];omega),by rw[e,ek];rfl⟩
def nA5 (A:Alg) (I:SP):List (Nat×bU):=(70,aR [.a .v] A (ac0 I)) :: (37,aR [.a (.s .pt)] A (ajA A I)) :: ([])
theorem akU:COK Try.prog (aN (nA5 aA f7)):=aB aeA (aB aiL (bC))
theorem ajK:aJ Try.prog 42 (aR [.a (.s (.row [.int .i64, .int .i64, .int .i64, .P, .P, .P]))] aA (ajT aA f7 eE)):=by
 refine aW (un:=⟨false,some [0,2,3,5,6,7,8,9]⟩) tok akU aL (fn:=Try.f42) ?_
 intro w Wr args bs r hg ho hWr A L k hA hL hk
 obtain⟨I,hI⟩:=exE f7
 obtain⟨P,hP⟩:=exE eE
 try rw[← hI]
 try rw[← hP]
 try rw[← hA]
 unfold ajT at hg
 split at hg <;> cases hg
 rename_i l
 have hl:(l.length:Int) < 10000:=akR (aG ho).1
 clear ho
 have i0:AlJ l 0 []:=⟨Int.le_refl _,Int.natCast_nonneg _,rfl⟩
 cbv
 refine hL _ _ _ (gM (un:=⟨false,some [0,2,3,5,6,7,8,9]⟩) tok akU aL 1 (fun i hi=>by have:=hWr i hi;simp at this;show i < 1;omega) (fun p:Int×List Pt=>⟨[(8,⟨[], .c (.s (.int .i64 p.1))⟩),(7,⟨[], .c (.s (.int .i64 (A.len l)))⟩),(6,⟨[], .c (.s (.hs 0))⟩),(3,⟨[], .c (.s (.hs 1))⟩),(2,⟨[], .c (.s .nils)⟩),(0,⟨[], .c (.s (.hs 0))⟩)],[(0, .vec false (.row [.int .i64, .int .i64, .int .i64, .P, .P, .P]) l),(1, .vec true .pt p.2)],2⟩)
  (fun p=>AlJ l p.1 p.2) (fun p=>((l.length:Int) - p.1).toNat) (0,[]) i0 [(1, .nils)] ?_ (fun _=>Nat.le_of_ble_eq_true rfl) ?_)
 ·exact⟨⟨⟨rfl,rfl,fun _=>rfl⟩,⟨rfl,rfl,fun _=>rfl⟩,⟨rfl,rfl,fun _=>rfl⟩,⟨rfl,rfl,fun _=>rfl⟩,⟨rfl,rfl,fun _=>rfl⟩,⟨rfl,rfl,fun _=>rfl⟩,trivial⟩,⟨⟨rfl,rfl,rfl,rfl,fun h=>h⟩,rfl,trivial⟩,rfl,rfl,rfl,rfl⟩
 clear i0
 rintro⟨k,M⟩ hJ A2 L2 k2 hA2 hL2 hnext hexit hret
 rw[← hA2, ← hI]
 have hJ:AlJ l k M:=hJ
 have eN:A2.len l=A.len l:=by rw[hA2,hA]
 have st:=fun hb:A2.cmp .lss k (A.len l)=true=>al4 hl hJ A2 hA2 I hI (by rw[eN];exact hb)
 have en:=fun hb:A2.cmp .lss k (A.len l)=false=>al3 hl hJ A2 hA2 P hP (by rw[eN];exact hb)
 have le:A2.cmp .lss k (A.len l)=true→A2.cmp .lss k (A2.len l)=true:=fun h=>by rw[eN];exact h
 clear hJ
 cbv
 repeat' with_reducible first | (intro hb;cbv) | refine UM ?_ ?_
 all_goals first | (have st:=st (by assumption);first | exact st.o1 | exact st.c1) | exact le (by assumption) | skip
 ·have st:=st (by assumption)
  have ead:=st.ad
  have nx:=st.nx
  have ems:=st.ms
  subst hA2 hA
  first | (refine hnext _ (k+1,_) [(1, .hs 4)] nx ems ?_;exact⟨⟨⟨rfl,rfl,leI ead⟩,⟨rfl,rfl,fun _=>rfl⟩,⟨rfl,rfl,fun _=>rfl⟩,⟨rfl,rfl,fun _=>rfl⟩,⟨rfl,rfl,fun _=>rfl⟩,⟨rfl,rfl,fun _=>rfl⟩,trivial⟩,⟨⟨rfl,rfl,rfl,rfl,fun h=>h⟩,⟨rfl,rfl,rfl,rfl,fun h=>h⟩,trivial⟩,rfl,rfl,rfl,rfl⟩) | (refine hnext _ (k+1,_) [(1, .hs 3)] nx ems ?_;exact⟨⟨⟨rfl,rfl,leI ead⟩,⟨rfl,rfl,fun _=>rfl⟩,⟨rfl,rfl,fun _=>rfl⟩,⟨rfl,rfl,fun _=>rfl⟩,⟨rfl,rfl,fun _=>rfl⟩,⟨rfl,rfl,fun _=>rfl⟩,trivial⟩,⟨⟨rfl,rfl,rfl,rfl,fun h=>h⟩,⟨rfl,rfl,rfl,rfl,fun h=>h⟩,trivial⟩,rfl,rfl,rfl,rfl⟩) | (refine hnext _ (k+1,_) [(1, .hs 5)] nx ems ?_;exact⟨⟨⟨rfl,rfl,leI ead⟩,⟨rfl,rfl,fun _=>rfl⟩,⟨rfl,rfl,fun _=>rfl⟩,⟨rfl,rfl,fun _=>rfl⟩,⟨rfl,rfl,fun _=>rfl⟩,⟨rfl,rfl,fun _=>rfl⟩,trivial⟩,⟨⟨rfl,rfl,rfl,rfl,fun h=>h⟩,⟨rfl,rfl,rfl,rfl,fun h=>h⟩,trivial⟩,rfl,rfl,rfl,rfl⟩)
 ·have e:=en hb
  have eA:A2=A:=hA2.trans hA.symm
  apply hexit
  clear hexit hnext hret st en
  subst eA
  cbv
  repeat' with_reducible first | (intro hb;cbv) | refine UM ?_ ?_
  all_goals first | exact e.o1 | skip
  have ee:=e.e
  subst hI hP
  first | exact hk _ _ (bW.one (t:=2) rfl rfl (Nat.le_of_ble_eq_true rfl) (fun ρ=>rfl) rfl (.vec (by rw[ee]))) | exact hk _ _ (bW.one (t:=3) rfl rfl (Nat.le_of_ble_eq_true rfl) (fun ρ=>rfl) rfl (.vec (by rw[ee])))
end Go.Eng
