
import Derived.Test.YtbfknjpggfkgjaaGreatYCH3
import Derived.Test.YtbfknjpggfkgjaaGreatYCH6
set_option linter.all false
set_option exponentiation.threshold 3000
set_option maxRecDepth 100000
set_option maxHeartbeats 2000000
namespace Go.Eng
open Go.Proofs
structure RnJ (f:Pt→Pt→List Pt) (c:List Pt) (k:Int) (M:List Pt):Prop where
 k0:0≤k
 k1:k≤aY c
 e:M=acX f c k.toNat
theorem Zz {f:Pt→Pt→List Pt} {c:List Pt} (hf: ∀ a b,(f a b).length≤1000): ∀ k,(acX f c k).length≤1001*k
 | 0=>Nat.le_refl _
 | k+1=>by
  have:=Zz (c:=c) hf k
  have:=hf (pC c k) (pC c (((k:Int)+1) % aY c))
  unfold acX
  rw[List.length_append,List.length_append,List.length_singleton];omega
def nxA (A:Alg) (c:List Pt) (k:Int):Int:=A.bin .rem .i64 (A.bin .add .i64 k 1) (A.len c)
structure RnS (A:Alg) (f:Pt→Pt→List Pt) (c:List Pt) (k:Int) (M:List Pt):Prop where
 o1:A.cmp .leq 0 k=true
 c1:A.cmp .leq (A.iadd (A.len M) (A.len [dP A c k])) 1000000=true
 nz:A.cmp .neq (A.len c) 0=true
 i1:A.cmp .leq 0 (nxA A c k)=true
 i2:A.cmp .lss (nxA A c k) (A.len c)=true
 c2:A.cmp .leq (A.iadd (A.len (A.app M [dP A c k])) (A.len (f (dP A c k) (dP A c (nxA A c k))))) 1000000=true
 nx:RnJ f c (k+1) (A.app (A.app M [dP A c k]) (f (dP A c k) (dP A c (nxA A c k))))
 ad:A.bin .add .i64 k 1=k+1
 ms:(aY c - (k+1)).toNat < (aY c - k).toNat
theorem af4 {f:Pt→Pt→List Pt} {c:List Pt} (hc:aY c≤4) (hf: ∀ a b,(f a b).length≤1000) {k:Int} {M:List Pt} (h:RnJ f c k M) (A:Alg) (hA:A=aA) (hb:A.cmp .lss k (A.len c)=true):RnS A f c k M:=by
 subst hA
 obtain⟨k0,k1,e⟩:=h
 have hb:k < aY c:=of_decide_eq_true hb
 have hM:(M.length:Int)≤4004:=by rw[e];have:=Zz (c:=c) hf k.toNat;omega
 have ek:(k+1).toNat=k.toNat+1:=by omega
 have ek2:((k.toNat:Nat):Int)=k:=Int.toNat_of_nonneg k0
 have ad:aA.bin .add .i64 k 1=k+1:=by show IntKind.i64.wrap _=_;rw[IntKind.wrap_i64];omega
 have en:nxA aA c k=(k+1) % aY c:=by
  unfold nxA
  rw[ad]
  show(k+1).tmod (aY c)=_
  rw[Int.tmod_eq_emod_of_nonneg (by omega)]
 have h1:=Int.emod_nonneg (k+1) (show aY c≠0 by omega)
 have h2:=Int.emod_lt_of_pos (k+1) (show 0 < aY c by omega)
 have hff:=hf (dP aA c k) (dP aA c (nxA aA c k))
 refine⟨bJ _ rfl _ _ k0,bJ _ rfl _ _ (by show(M.length:Int)+1≤1000000;omega),?_,bJ _ rfl _ _ (by omega),bH _ rfl _ _ (by show _ < aY c;omega),bJ _ rfl _ _ ?_,⟨by omega,by omega,?_⟩,ad,by omega⟩
 ·show(aY c != 0)=true
  rw[bne_iff_ne];omega
 ·show((M++[dP aA c k]).length:Int)+((f (dP aA c k) (dP aA c (nxA aA c k))).length:Int)≤1000000
  rw[List.length_append,List.length_singleton];omega
 ·rw[ek,acX,ek2, ← en, ← e];rfl
theorem aaU (a b:Pt) (l:List Pt):(aaS a b l).length≤l.length:=by
 have h1:(ZU a b l).length≤l.length:=by
  show((l.take (toP a b l).toNat).drop (frP a b l).toNat).length≤_
  rw[List.length_drop,List.length_take];omega
 have h2:=UU (onE a b) (ZU a b l) (ZU a b l).length
 unfold aaS adU
 split
 ·split
  ·rw[List.length_reverse];omega
  ·omega
 ·exact Nat.zero_le _
theorem ab8 (u v w:Pt):aY (ZX u v w)≤4:=by
 unfold ZX afA aY
 rw[List.length_append,List.length_append,List.length_append]
 have h: ∀ (p q:Pt),(if p≠q then[p] else[]).length≤1:=fun p q=>by split <;> simp
 have a:=h ⟨u.X,v.X⟩ ⟨u.X,v.Y⟩
 have b:=h ⟨u.Y,w.X⟩ ⟨u.X,v.X⟩
 have c:=h ⟨u.Y,w.Y⟩ ⟨u.Y,w.X⟩
 have d:=h ⟨u.X,v.Y⟩ ⟨u.Y,w.Y⟩
 omega
def aeF (A:Alg) (I:SP):List CV→List Blk→Option LW
 | [.g [.P a], .g [.P b], .s (.hs 0)],[.vec false .pt l]=>some ⟨[A.cmp .lss (A.len l) 1000], .c (.s (.hs 1)),[.vec true .pt (I.btw a b l)],[]⟩
 | _,_=>none
def hB2 (A:Alg) (I:SP):List (Nat×bU):=(126,aR [.g [.v, .v, .s .pt]] A (afC A I)) :: ([])
theorem afK:COK Tryz.prog (aN (hB2 aA f7)):=aB ad9 (bC)
theorem acK:aJ Tryz.prog 79 (aR [.a .v, .a .v, .a (.s .pt)] aA (aeF aA f7)):=by
 refine aW (un:=⟨false,some [0,1,2,3,4,6]⟩) tok afK aL (fn:=Tryz.f79) ?_
 intro w Wr args bs r hg ho hWr A L k hA hL hk
 obtain⟨I,hI⟩:=exE f7
 try rw[← hI]
 try rw[← hA]
 unfold aeF at hg
 split at hg <;> cases hg
 rename_i a b l
 have o1:=(aG ho).1
 rw[← hA] at o1
 clear ho
 cbv
 repeat' with_reducible first | (intro hb;cbv) | refine UM ?_ ?_
 ·exact o1
 ·subst hI
  exact hk _ _ (bW.one (t:=3) rfl rfl (Nat.le_of_ble_eq_true rfl) (fun ρ=>rfl) rfl (.vec rfl))
def ae8 (A:Alg) (I:SP):List CV→List Blk→Option LW
 | [.g [.P u, .P v, .P w], .s (.hs 0)],[.vec false .pt n]=>some ⟨[A.cmp .lss (A.len n) 1000], .c (.s (.hs 1)),[.vec true .pt (I.rim u v w n)],[]⟩
 | _,_=>none
def hB3 (A:Alg) (I:SP):List (Nat×bU):=(79,aR [.a .v, .a .v, .a (.s .pt)] A (aeF A I)) :: (78,aR [.a .v] A (ac0 I)) :: ([])
theorem aeJ:COK Tryz.prog (aN (hB3 aA f7)):=aB acK (aB aeA (bC))
theorem adB:aJ Tryz.prog 45 (aR [.a .v, .a (.s .pt)] aA (ae8 aA f7)):=by
 refine aW (un:=⟨false,some [0,1,2,4,5,6,7,8,11,12,13,14]⟩) tok aeJ aL (fn:=Tryz.f45) ?_
 intro w Wr args bs r hg ho hWr A L k hA hL hk
 obtain⟨I,hI⟩:=exE f7
 try rw[← hI]
 try rw[← hA]
 unfold ae8 at hg
 split at hg <;> cases hg
 rename_i u v w n
 have o1:=(aG ho).1
 have hn:(n.length:Int) < 1000:=of_decide_eq_true o1
 rw[← hA] at o1
 clear ho
 have hc:aY (I.cor u v w)≤4:=by subst hI;exact ab8 u v w
 have hf: ∀ a b,(I.btw a b n).length≤1000:=fun a b=>by subst hI;have:=aaU a b n;show(aaS a b n).length≤1000;omega
 have i0:RnJ (fun a b=>I.btw a b n) (I.cor u v w) 0 []:=⟨Int.le_refl _,Int.natCast_nonneg _,rfl⟩
 have cl:A.cmp .lss (A.len (I.cor u v w)) 1000000=true:=by subst hA;exact bH _ rfl _ _ (by show aY (I.cor u v w) < 1000000;omega)
 cbv
 repeat' with_reducible first | (intro hb;cbv) | refine UM ?_ ?_
 refine hL _ _ _ (gM (un:=⟨false,some [0,1,2,4,5,6,7,8,11,12,13,14]⟩) tok aeJ aL 1 (fun i hi=>by have:=hWr i hi;simp at this;show i < 1;omega) (fun p:Int×List Pt=>⟨[(13,⟨[], .c (.s (.int .i64 p.1))⟩),(12,⟨[], .c (.s (.int .i64 (A.len (I.cor u v w))))⟩),(11,⟨[], .c (.s (.hs 2))⟩),(6,⟨[], .c (.s (.hs 2))⟩),(5,⟨[], .c (.s (.hs 3))⟩),(4,⟨[], .c (.s .nils)⟩),(2,⟨[], .c (.s (.hp 1 0))⟩),(1,⟨[], .c (.s (.hs 0))⟩)],[(0, .vec false .pt n),(1, .fix true [.P u, .P v, .P w]),(2, .vec true .pt (I.cor u v w)),(3, .vec true .pt p.2)],4⟩)
  (fun p=>RnJ (fun a b=>I.btw a b n) (I.cor u v w) p.1 p.2) (fun p=>(aY (I.cor u v w) - p.1).toNat) (0,[]) i0 [(3, .nils)] ?_ (fun _=>Nat.le_of_ble_eq_true rfl) ?_)
 ·exact⟨⟨⟨rfl,rfl,fun _=>rfl⟩,⟨rfl,rfl,fun _=>rfl⟩,⟨rfl,rfl,fun _=>rfl⟩,⟨rfl,rfl,fun _=>rfl⟩,⟨rfl,rfl,fun _=>rfl⟩,⟨rfl,rfl,fun _=>rfl⟩,⟨rfl,rfl,fun _=>rfl⟩,⟨rfl,rfl,fun _=>rfl⟩,trivial⟩,⟨⟨rfl,rfl,rfl,rfl,fun h=>h⟩,⟨rfl,rfl,fun _=>rfl⟩,⟨rfl,rfl,rfl,rfl,fun h=>h⟩,rfl,trivial⟩,rfl,rfl,rfl,rfl⟩
 clear i0
 rintro⟨i,M⟩ hJ2 A2 L2 k2 hA2 hL2 hnext hexit hret
 have st:=fun hb=>af4 hc hf hJ2 A2 hA2 hb
 have en:A2.cmp .lss i (A2.len (I.cor u v w))=false→M=I.rim u v w n:=fun hb=>by
  subst hA2 hI
  have hb: ¬ i < aY (f7.cor u v w):=of_decide_eq_false hb
  have h1:i≤aY (f7.cor u v w):=hJ2.k1
  have:i=aY (f7.cor u v w):=by omega
  have e:M=acX (fun a b=>f7.btw a b n) (f7.cor u v w) i.toNat:=hJ2.e
  rw[e,this];rfl
 clear hJ2
 rw[hA, ← hA2, ← hI]
 cbv
 repeat' with_reducible first | (intro hb;cbv) | refine UM ?_ ?_
 all_goals first | exact(st (by assumption)).o1 | assumption | exact(st (by assumption)).c1 | exact(st (by assumption)).nz | exact(st (by assumption)).i1 | exact(st (by assumption)).i2 | exact(st (by assumption)).c2 | (rw[hA2, ← hA];exact o1) | skip
 ·have st:=st (by assumption)
  refine hnext _ (i+1,_) [(3, .hs 8)] st.nx st.ms ?_
  have ead:=st.ad
  subst hA2 hA
  exact⟨⟨⟨rfl,rfl,leI ead⟩,⟨rfl,rfl,fun _=>rfl⟩,⟨rfl,rfl,fun _=>rfl⟩,⟨rfl,rfl,fun _=>rfl⟩,⟨rfl,rfl,fun _=>rfl⟩,⟨rfl,rfl,fun _=>rfl⟩,⟨rfl,rfl,fun _=>rfl⟩,⟨rfl,rfl,fun _=>rfl⟩,trivial⟩,⟨⟨rfl,rfl,rfl,rfl,fun h=>h⟩,⟨rfl,rfl,fun _=>rfl⟩,⟨rfl,rfl,rfl,rfl,fun h=>h⟩,⟨rfl,rfl,rfl,rfl,fun h=>h⟩,trivial⟩,rfl,rfl,rfl,rfl⟩
 ·have e:=en hb
  have eA:A2=A:=hA2.trans hA.symm
  apply hexit
  clear hexit hnext hret st en
  subst eA hI
  cbv
  exact hk _ _ (bW.one (t:=3) rfl rfl (Nat.le_of_ble_eq_true rfl) (fun ρ=>rfl) rfl (.vec e))
end Go.Eng
