
import Derived.Test.YtbfknjpggfkgjaaGreatYNF1
set_option linter.all false
set_option exponentiation.threshold 3000
set_option maxRecDepth 100000
set_option maxHeartbeats 2000000
namespace Go.Eng
open Go.Proofs
def arT (A:Alg) (P:SNd):List CV→List Blk→Option LW
 | [.g [.P m], .s (.hs 0)],[.vec false .pt r]=>some ⟨[A.cmp .lss (A.len r) 10000], .c (.s (.hs 1)),[.vec true (.row [.P, .P, .P]) (P.around m r)],[]⟩
 | _,_=>none
structure ArJ (m:Pt) (r:List Pt) (k:Int) (M:List T3):Prop where
 k0:0≤k
 k1:k≤(r.length:Int)
 e:M=l4 m r k.toNat
def nxR (A:Alg) (r:List Pt) (k:Int):Int:=A.bin .rem .i64 (A.bin .add .i64 k 1) (A.len r)
structure ArS (A:Alg) (m:Pt) (r:List Pt) (k:Int) (M:List T3):Prop where
 o1:A.cmp .leq 0 k=true
 nz:A.cmp .neq (A.len r) 0=true
 i1:A.cmp .leq 0 (nxR A r k)=true
 i2:A.cmp .lss (nxR A r k) (A.len r)=true
 c1:A.cmp .leq (A.iadd (A.len M) (A.len [((m,dP A r k,dP A r (nxR A r k),()):T3)])) 1000000=true
 nx:ArJ m r (k+1) (A.app M [((m,dP A r k,dP A r (nxR A r k),()):T3)])
 ad:A.bin .add .i64 k 1=k+1
 ms:((r.length:Int) - (k+1)).toNat < ((r.length:Int) - k).toNat
theorem asQ {m:Pt} {r:List Pt} {k:Int} {M:List T3} (hl:(r.length:Int) < 10000) (h:ArJ m r k M) (A:Alg) (hA:A=aA) (hb:A.cmp .lss k (A.len r)=true):ArS A m r k M:=by
 subst hA
 obtain⟨k0,k1,e⟩:=h
 have hb:k < (r.length:Int):=of_decide_eq_true hb
 have ad:aA.bin .add .i64 k 1=k+1:=by show IntKind.i64.wrap _=_;rw[IntKind.wrap_i64];omega
 have en:nxR aA r k=(k+1) % (r.length:Int):=by
  unfold nxR
  rw[ad]
  exact Int.tmod_eq_emod_of_nonneg (by omega)
 have r0:=Int.emod_nonneg (k+1) (show(r.length:Int)≠0 by omega)
 have r1:=Int.emod_lt_of_pos (k+1) (show 0 < (r.length:Int) by omega)
 have ek:(k+1).toNat=k.toNat+1:=by omega
 have ek2:((k.toNat:Nat):Int)=k:=Int.toNat_of_nonneg k0
 have hM:(M.length:Int)≤10000:=by rw[e,amW];omega
 rw[show(ArS aA m r k M)↔ArS aA m r k M from Iff.rfl]
 refine⟨bJ _ rfl _ _ k0,?_,by rw[en];exact bJ _ rfl _ _ r0,by rw[en];exact bH _ rfl _ _ r1,?_,⟨by omega,by omega,?_⟩,ad,by omega⟩
 ·show((r.length:Int) != 0)=true
  rw[bne_iff_ne];omega
 ·have hs:(M.length:Int)+1≤1000000:=by omega
  exact bJ _ rfl _ _ hs
 ·rw[en,ek,l4,ek2, ← e]
  rfl
theorem apY:aJ Tryz.prog 43 (aR [.a .v, .a (.s .pt)] aA (arT aA dT)):=by
 refine aW (un:=⟨false,some [0,1,2,4,5,6,7,8,9,10,11]⟩) tok nF aL (fn:=Tryz.f43) ?_
 intro w Wr args bs r hg ho hWr A L k hA hL hk
 obtain⟨P,hP⟩:=exE dT
 try rw[← hP]
 try rw[← hA]
 unfold arT at hg
 split at hg <;> cases hg
 rename_i m r
 have hl:(r.length:Int) < 10000:=akR (aG ho).1
 clear ho
 have i0:ArJ m r 0 []:=⟨Int.le_refl _,Int.natCast_nonneg _,rfl⟩
 cbv
 refine hL _ _ _ (gM (un:=⟨false,some [0,1,2,4,5,6,7,8,9,10,11]⟩) tok nF aL 1 (fun i hi=>by have:=hWr i hi;simp at this;show i < 1;omega) (fun p:Int×List T3=>⟨[(10,⟨[], .c (.s (.int .i64 p.1))⟩),(9,⟨[], .c (.s (.int .i64 (A.len r)))⟩),(8,⟨[], .c (.s (.hs 0))⟩),(5,⟨[], .c (.s (.hs 2))⟩),(4,⟨[], .c (.s .nils)⟩),(2,⟨[], .c (.s (.hp 1 0))⟩),(1,⟨[], .c (.s (.hs 0))⟩)],[(0, .vec false .pt r),(1, .fix true [.P m]),(2, .vec true (.row [.P, .P, .P]) p.2)],3⟩)
  (fun p=>ArJ m r p.1 p.2) (fun p=>((r.length:Int) - p.1).toNat) (0,[]) i0 [(2, .nils)] ?_ (fun _=>Nat.le_of_ble_eq_true rfl) ?_)
 ·exact⟨⟨⟨rfl,rfl,fun _=>rfl⟩,⟨rfl,rfl,fun _=>rfl⟩,⟨rfl,rfl,fun _=>rfl⟩,⟨rfl,rfl,fun _=>rfl⟩,⟨rfl,rfl,fun _=>rfl⟩,⟨rfl,rfl,fun _=>rfl⟩,⟨rfl,rfl,fun _=>rfl⟩,trivial⟩,⟨⟨rfl,rfl,rfl,rfl,fun h=>h⟩,⟨rfl,rfl,fun _=>rfl⟩,rfl,trivial⟩,rfl,rfl,rfl,rfl⟩
 clear i0
 rintro⟨k,M⟩ hJ A2 L2 k2 hA2 hL2 hnext hexit hret
 have eA:A2=A:=hA2.trans hA.symm
 subst eA
 have hJ:ArJ m r k M:=hJ
 have st:=fun hb=>asQ hl hJ A2 hA2 hb
 have en:A2.cmp .lss k (A2.len r)=false→M=P.around m r:=fun hb=>by
  subst hA2 hP
  have hb: ¬ k < (r.length:Int):=of_decide_eq_false hb
  have h1:=hJ.k1
  rw[hJ.e,show k.toNat=r.length by omega];rfl
 clear hJ
 cbv
 repeat' with_reducible first | (intro hb;cbv) | refine UM ?_ ?_
 all_goals first | (have st:=st (by assumption);first | exact st.o1 | exact st.nz | exact st.i1 | exact st.i2 | exact st.c1) | assumption | skip
 ·have st:=st (by assumption)
  have ead:=st.ad
  have nx:=st.nx
  have ems:=st.ms
  subst hA2
  first | (refine hnext _ (k+1,_) [(2, .hs 4)] nx ems ?_;exact⟨⟨⟨rfl,rfl,leI ead⟩,⟨rfl,rfl,fun _=>rfl⟩,⟨rfl,rfl,fun _=>rfl⟩,⟨rfl,rfl,fun _=>rfl⟩,⟨rfl,rfl,fun _=>rfl⟩,⟨rfl,rfl,fun _=>rfl⟩,⟨rfl,rfl,fun _=>rfl⟩,trivial⟩,⟨⟨rfl,rfl,rfl,rfl,fun h=>h⟩,⟨rfl,rfl,fun _=>rfl⟩,⟨rfl,rfl,rfl,rfl,fun h=>h⟩,trivial⟩,rfl,rfl,rfl,rfl⟩) | (refine hnext _ (k+1,_) [(2, .hs 5)] nx ems ?_;exact⟨⟨⟨rfl,rfl,leI ead⟩,⟨rfl,rfl,fun _=>rfl⟩,⟨rfl,rfl,fun _=>rfl⟩,⟨rfl,rfl,fun _=>rfl⟩,⟨rfl,rfl,fun _=>rfl⟩,⟨rfl,rfl,fun _=>rfl⟩,⟨rfl,rfl,fun _=>rfl⟩,trivial⟩,⟨⟨rfl,rfl,rfl,rfl,fun h=>h⟩,⟨rfl,rfl,fun _=>rfl⟩,⟨rfl,rfl,rfl,rfl,fun h=>h⟩,trivial⟩,rfl,rfl,rfl,rfl⟩) | (refine hnext _ (k+1,_) [(2, .hs 6)] nx ems ?_;exact⟨⟨⟨rfl,rfl,leI ead⟩,⟨rfl,rfl,fun _=>rfl⟩,⟨rfl,rfl,fun _=>rfl⟩,⟨rfl,rfl,fun _=>rfl⟩,⟨rfl,rfl,fun _=>rfl⟩,⟨rfl,rfl,fun _=>rfl⟩,⟨rfl,rfl,fun _=>rfl⟩,trivial⟩,⟨⟨rfl,rfl,rfl,rfl,fun h=>h⟩,⟨rfl,rfl,fun _=>rfl⟩,⟨rfl,rfl,rfl,rfl,fun h=>h⟩,trivial⟩,rfl,rfl,rfl,rfl⟩)
 ·have e:=en hb
  apply hexit
  clear hexit hnext hret st en
  cbv
  subst hP
  exact hk _ _ (bW.one (t:=2) rfl rfl (Nat.le_of_ble_eq_true rfl) (fun ρ=>rfl) rfl (.vec e))
end Go.Eng
