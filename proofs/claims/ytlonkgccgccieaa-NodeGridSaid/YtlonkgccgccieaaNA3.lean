
import Derived.Test.YtlonkgccgccieaaNA1
import Derived.Test.YtlonkgccgccieaaCTA
set_option linter.all false
set_option exponentiation.threshold 3000
set_option maxRecDepth 100000
set_option maxHeartbeats 2000000
namespace Go.Eng
open Go.Proofs
def ajA (A:Alg) (I:SP):List CV→List Blk→Option LW
 | [.s (.hs 0)],[.vec false .pt l]=>some ⟨[A.cmp .lss (A.len l) 100000], .c (.s (.hs 1)),[.vec true .pt (I.srt l)],[]⟩
 | _,_=>none
structure SnJ (l:List Pt) (k:Int) (M:List Pt):Prop where
 k0:0≤k
 k1:k≤aY l
 e:M=XE dJ l k.toNat
structure SnS (A:Alg) (H:SH) (l:List Pt) (k:Int) (M:List Pt):Prop where
 o1:A.cmp .leq 0 k=true
 c1:A.cmp .leq (A.iadd (A.len M) (A.len [dP A l k])) 1000000=true
 n1:H.all [dP A l k]=true→SnJ l (k+1) (A.app M [dP A l k])
 n0:H.all [dP A l k]=false→SnJ l (k+1) M
 ad:A.bin .add .i64 k 1=k+1
 ms:(aY l - (k+1)).toNat < (aY l - k).toNat
theorem aiS (F:Pt→Bool) (l:List Pt): ∀ k,(XE F l k).length≤k
 | 0=>Nat.le_refl _
 | k+1=>by
  have:=aiS F l k
  unfold XE
  split
  ·rw[List.length_append,List.length_singleton];omega
  ·omega
theorem amI {l:List Pt} {k:Int} {M:List Pt} (hl:(l.length:Int) < 100000) (h:SnJ l k M) (A:Alg) (hA:A=aA) (H:SH) (hH:H=bD) (hb:A.cmp .lss k (A.len l)=true):SnS A H l k M:=by
 subst hA hH
 obtain⟨k0,k1,e⟩:=h
 have hb:k < (l.length:Int):=of_decide_eq_true hb
 have hll:aY l=(l.length:Int):=rfl
 have hM:(M.length:Int)≤100000:=by rw[e];have:=aiS dJ l k.toNat;omega
 have ek:(k+1).toNat=k.toNat+1:=by omega
 have ek2:((k.toNat:Nat):Int)=k:=Int.toNat_of_nonneg k0
 have ea:bD.all [dP aA l k]=dJ (pC l k):=by show(dJ (pC l k)&&true)=_;rw[Bool.and_true]
 refine⟨bJ _ rfl _ _ k0,bJ _ rfl _ _ (by show(M.length:Int)+(([dP aA l k]:List Pt).length:Int)≤1000000;rw[List.length_singleton];omega),fun h=>⟨by omega,by omega,?_⟩,fun h=>⟨by omega,by omega,?_⟩,by show IntKind.i64.wrap _=_;rw[IntKind.wrap_i64];omega,by omega⟩
 ·rw[ea] at h
  rw[ek,XE,ek2,h, ← e]
  rfl
 ·rw[ea] at h
  rw[ek,XE,ek2,h, ← e]
  rfl
structure SnE (A:Alg) (H:SH) (P:SNd) (I:SP) (l M:List Pt):Prop where
 o1:A.cmp .lss (A.len M) 1000000=true
 o2:H.all M=true
 o3:A.cmp .lss (A.len (P.srt M)) 1000000=true
 e:P.cmpt (P.srt M)=I.srt l
theorem amH {l:List Pt} {k:Int} {M:List Pt} (hl:(l.length:Int) < 100000) (h:SnJ l k M) (A:Alg) (hA:A=aA) (H:SH) (hH:H=bD) (P:SNd) (hP:P=eE) (I:SP) (hI:I=f7) (hb:A.cmp .lss k (A.len l)=false):SnE A H P I l M:=by
 subst hA hH hP hI
 obtain⟨k0,k1,e⟩:=h
 have hb: ¬ k < (l.length:Int):=of_decide_eq_false hb
 have hll:aY l=(l.length:Int):=rfl
 have ek:k.toNat=l.length:=by omega
 have hM:M=eE.flt l:=by rw[e,ek];rfl
 have hlM:M.length≤l.length:=by rw[e];have:=aiS dJ l k.toNat;omega
 have hsl:(eE.srt M).length=M.length:=List.length_mergeSort _
 refine⟨bH _ rfl _ _ (by show(M.length:Int) < 1000000;omega),?_,bH _ rfl _ _ (by show((eE.srt M).length:Int) < 1000000;rw[hsl];omega),by rw[hM];exact akV l⟩
 refine List.all_eq_true.2 fun x hx=>?_
 rw[hM,show eE.flt l=l.filter dJ from ab9 dJ l] at hx
 exact(List.mem_filter.1 hx).2
def nA4 (A:Alg) (H:SH) (P:SNd):List (Nat×bU):=(64,aC [.v] A (C1 H)) :: ((nA1 A H P))
theorem akT:COK Try.prog (aN (nA4 aA bD eE)):=aB DQ (alO)
theorem aiL:aJ Try.prog 37 (aR [.a (.s .pt)] aA (ajA aA f7)):=by
 refine aW (un:=⟨false,some [0,2,3,5,6,7,8,9,13]⟩) tok akT aL (fn:=Try.f37) ?_
 intro w Wr args bs r hg ho hWr A L k hA hL hk
 obtain⟨H,hH⟩:=exE bD
 obtain⟨I,hI⟩:=exE f7
 obtain⟨P,hP⟩:=exE eE
 try rw[← hH]
 try rw[← hI]
 try rw[← hP]
 try rw[← hA]
 unfold ajA at hg
 split at hg <;> cases hg
 rename_i l
 have hl:(l.length:Int) < 100000:=akR (aG ho).1
 clear ho
 have i0:SnJ l 0 []:=⟨Int.le_refl _,Int.natCast_nonneg _,rfl⟩
 cbv
 refine hL _ _ _ (gM (un:=⟨false,some [0,2,3,5,6,7,8,9,13]⟩) tok akT aL 1 (fun i hi=>by have:=hWr i hi;simp at this;show i < 1;omega) (fun p:Int×List Pt=>⟨[(8,⟨[], .c (.s (.int .i64 p.1))⟩),(7,⟨[], .c (.s (.int .i64 (A.len l)))⟩),(6,⟨[], .c (.s (.hs 0))⟩),(3,⟨[], .c (.s (.hs 1))⟩),(2,⟨[], .c (.s .nils)⟩),(0,⟨[], .c (.s (.hs 0))⟩)],[(0, .vec false .pt l),(1, .vec true .pt p.2)],2⟩)
  (fun p=>SnJ l p.1 p.2) (fun p=>(aY l - p.1).toNat) (0,[]) i0 [(1, .nils)] ?_ (fun _=>Nat.le_of_ble_eq_true rfl) ?_)
 ·exact⟨⟨⟨rfl,rfl,fun _=>rfl⟩,⟨rfl,rfl,fun _=>rfl⟩,⟨rfl,rfl,fun _=>rfl⟩,⟨rfl,rfl,fun _=>rfl⟩,⟨rfl,rfl,fun _=>rfl⟩,⟨rfl,rfl,fun _=>rfl⟩,trivial⟩,⟨⟨rfl,rfl,rfl,rfl,fun h=>h⟩,rfl,trivial⟩,rfl,rfl,rfl,rfl⟩
 clear i0
 rintro⟨k,M⟩ hJ A2 L2 k2 hA2 hL2 hnext hexit hret
 rw[← hA2, ← hH, ← hP]
 have hJ:SnJ l k M:=hJ
 have eN:A2.len l=A.len l:=by rw[hA2,hA]
 have st:=fun hb:A2.cmp .lss k (A.len l)=true=>amI hl hJ A2 hA2 H hH (by rw[eN];exact hb)
 have en:=fun hb:A2.cmp .lss k (A.len l)=false=>amH hl hJ A2 hA2 H hH P hP I hI (by rw[eN];exact hb)
 have le:A2.cmp .lss k (A.len l)=true→A2.cmp .lss k (A2.len l)=true:=fun h=>by rw[eN];exact h
 clear hJ
 cbv
 repeat' with_reducible first | (intro hb;cbv) | refine UM ?_ ?_
 all_goals first | (have st:=st (by assumption);first | exact st.o1 | exact st.c1) | exact le (by assumption) | skip
 ·have st:=st (by assumption)
  have ead:=st.ad
  have nx:=st.n1 hb
  have ems:=st.ms
  subst hA2 hA
  first | (refine hnext _ (k+1,_) [(1, .hs 4)] nx ems ?_;exact⟨⟨⟨rfl,rfl,leI ead⟩,⟨rfl,rfl,fun _=>rfl⟩,⟨rfl,rfl,fun _=>rfl⟩,⟨rfl,rfl,fun _=>rfl⟩,⟨rfl,rfl,fun _=>rfl⟩,⟨rfl,rfl,fun _=>rfl⟩,trivial⟩,⟨⟨rfl,rfl,rfl,rfl,fun h=>h⟩,⟨rfl,rfl,rfl,rfl,fun h=>h⟩,trivial⟩,rfl,rfl,rfl,rfl⟩) | (refine hnext _ (k+1,_) [(1, .hs 3)] nx ems ?_;exact⟨⟨⟨rfl,rfl,leI ead⟩,⟨rfl,rfl,fun _=>rfl⟩,⟨rfl,rfl,fun _=>rfl⟩,⟨rfl,rfl,fun _=>rfl⟩,⟨rfl,rfl,fun _=>rfl⟩,⟨rfl,rfl,fun _=>rfl⟩,trivial⟩,⟨⟨rfl,rfl,rfl,rfl,fun h=>h⟩,⟨rfl,rfl,rfl,rfl,fun h=>h⟩,trivial⟩,rfl,rfl,rfl,rfl⟩) | (refine hnext _ (k+1,_) [(1, .hs 5)] nx ems ?_;exact⟨⟨⟨rfl,rfl,leI ead⟩,⟨rfl,rfl,fun _=>rfl⟩,⟨rfl,rfl,fun _=>rfl⟩,⟨rfl,rfl,fun _=>rfl⟩,⟨rfl,rfl,fun _=>rfl⟩,⟨rfl,rfl,fun _=>rfl⟩,trivial⟩,⟨⟨rfl,rfl,rfl,rfl,fun h=>h⟩,⟨rfl,rfl,rfl,rfl,fun h=>h⟩,trivial⟩,rfl,rfl,rfl,rfl⟩)
 ·have st:=st (by assumption)
  have ead:=st.ad
  have nx:=st.n0 hb
  have ems:=st.ms
  subst hA2 hA
  refine hnext _ (k+1,M) [] nx ems ?_
  exact⟨⟨⟨rfl,rfl,leI ead⟩,⟨rfl,rfl,fun _=>rfl⟩,⟨rfl,rfl,fun _=>rfl⟩,⟨rfl,rfl,fun _=>rfl⟩,⟨rfl,rfl,fun _=>rfl⟩,⟨rfl,rfl,fun _=>rfl⟩,trivial⟩,⟨⟨rfl,rfl,rfl,rfl,fun h=>h⟩,⟨rfl,rfl,rfl,rfl,fun h=>h⟩,trivial⟩,rfl,rfl,rfl,rfl⟩
 ·have e:=en hb
  have eA:A2=A:=hA2.trans hA.symm
  apply hexit
  clear hexit hnext hret st en
  subst eA
  cbv
  repeat' with_reducible first | (intro hb;cbv) | refine UM ?_ ?_
  all_goals first | exact e.o1 | exact e.o2 | exact e.o3 | skip
  subst hI hP
  first | exact hk _ _ (bW.one (t:=2) rfl rfl (Nat.le_of_ble_eq_true rfl) (fun ρ=>rfl) rfl (.vec e.e)) | exact hk _ _ (bW.one (t:=3) rfl rfl (Nat.le_of_ble_eq_true rfl) (fun ρ=>rfl) rfl (.vec e.e))
end Go.Eng
