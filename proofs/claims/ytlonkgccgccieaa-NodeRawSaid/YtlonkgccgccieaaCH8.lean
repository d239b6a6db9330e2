
import Derived.Test.YtlonkgccgccieaaCH5
import Derived.Test.YtlonkgccgccieaaCH7
import Derived.Test.YtlonkgccgccieaaCVB
set_option linter.all false
set_option exponentiation.threshold 3000
set_option maxRecDepth 100000
set_option maxHeartbeats 2000000
namespace Go.Eng
open Go.Proofs
def afG (A:Alg) (I:SP):List CV→List Blk→Option LW
 | [.s (.hs 0), .s (.hs 1)],[.vec false .pt a, .vec false .pt b]=>some ⟨[A.cmp .lss (A.len a) 1000000,A.cmp .lss (A.len b) 1000000], .c (.s (.bool (I.same a b))),[],[]⟩
 | _,_=>none
structure SmJ (a b:List Pt) (k:Int):Prop where
 k0:0≤k
 k1:k≤aY a
 e: ∀ j:Nat,(j:Int) < k→a[j]? =b[j]?
structure SmS (A:Alg) (I:SP) (a b:List Pt) (k:Int):Prop where
 o1:A.cmp .leq 0 k=true
 o2:A.cmp .lss k (A.len b)=true
 no:A.not (A.eqP (dP A a k) (dP A b k))=true→false=I.same a b
 nx:A.not (A.eqP (dP A a k) (dP A b k))=false→SmJ a b (k+1)
 ad:A.bin .add .i64 k 1=k+1
 ms:(aY a - (k+1)).toNat < (aY a - k).toNat
theorem ZE {a b:List Pt} {k:Int} (hl:aY a < 1000000) (he:aY a=aY b) (h:SmJ a b k) (A:Alg) (hA:A=aA) (I:SP) (hI:I=f7) (hb:A.cmp .lss k (A.len a)=true):SmS A I a b k:=by
 subst hA hI
 obtain⟨k0,k1,e⟩:=h
 have hb:k < aY a:=of_decide_eq_true hb
 have hla:aY a=(a.length:Int):=rfl
 have hlb:aY b=(b.length:Int):=rfl
 have ga:a[k.toNat]? =some (pC a k):=by rw[← Int.toNat_of_nonneg k0,eD (by omega),Int.toNat_of_nonneg k0,List.getElem?_eq_getElem (by omega)]
 have gb:b[k.toNat]? =some (pC b k):=by rw[← Int.toNat_of_nonneg k0,eD (by omega),Int.toNat_of_nonneg k0,List.getElem?_eq_getElem (by omega)]
 refine⟨bJ _ rfl _ _ k0,bH _ rfl _ _ (by show k < aY b;omega),fun h=>?_,fun h=>⟨by omega,by omega,fun j hj=>?_⟩,by show IntKind.i64.wrap _=_;rw[IntKind.wrap_i64];omega,by omega⟩
 ·have h:(!decide (pC a k=pC b k))=true:=h
  have h:pC a k≠pC b k:=by simpa using h
  show false=decide (a=b)
  refine(decide_eq_false fun g=>h ?_).symm
  rw[g]
 ·have h:(!decide (pC a k=pC b k))=false:=h
  have h:pC a k=pC b k:=by simpa using h
  by_cases hj':(j:Int) < k
  ·exact e j hj'
  ·have:j=k.toNat:=by omega
   rw[this,ga,gb,h]
theorem agJ {a b:List Pt} {k:Int} (he:aY a=aY b) (h:SmJ a b k) (A:Alg) (hA:A=aA) (I:SP) (hI:I=f7) (hb:A.cmp .lss k (A.len a)=false):true=I.same a b:=by
 subst hA hI
 obtain⟨k0,k1,e⟩:=h
 have hb: ¬ k < aY a:=of_decide_eq_false hb
 have hla:aY a=(a.length:Int):=rfl
 have hlb:aY b=(b.length:Int):=rfl
 refine(decide_eq_true (List.ext_getElem? fun j=>?_)).symm
 by_cases hj:(j:Int) < k
 ·exact e j hj
 ·rw[List.getElem?_eq_none (by omega),List.getElem?_eq_none (by omega)]
theorem agK {a b:List Pt} (A:Alg) (hA:A=aA) (I:SP) (hI:I=f7):(A.cmp .neq (A.len a) (A.len b)=true→false=I.same a b)∧(A.cmp .neq (A.len a) (A.len b)=false→aY a=aY b):=by
 subst hA hI
 refine⟨fun h=>?_,fun h=>?_⟩
 ·have h:(aY a != aY b)=true:=h
  rw[bne_iff_ne] at h
  exact(decide_eq_false fun g=>h (by rw[g])).symm
 ·have h:(aY a != aY b)=false:=h
  simpa using h
theorem adL:aJ Try.prog 40 (aR [.a (.s .pt), .a (.s .pt)] aA (afG aA f7)):=by
 refine aW (un:=⟨false,some [0,1,4,5,10,14,25]⟩) tok nF aL (fn:=Try.f40) ?_
 intro w Wr args bs r hg ho hWr A L k hA hL hk
 obtain⟨I,hI⟩:=exE f7
 try rw[← hI]
 try rw[← hA]
 unfold afG at hg
 split at hg <;> cases hg
 rename_i a b
 have o1:=(aG ho).1
 have hl:aY a < 1000000:=acT o1
 clear ho o1
 have n:=agK (a:=a) (b:=b) A hA I hI
 cbv
 repeat' with_reducible first | (intro hb;cbv) | refine UM ?_ ?_
 ·have e:=n.1 hb
  subst hI
  exact hk _ _ (bW.pure rfl rfl fun ρ=>dT e)
 have he:=n.2 hb
 have i0:SmJ a b 0:=⟨Int.le_refl _,Int.natCast_nonneg _,fun j h=>by omega⟩
 refine hL _ _ _ (aQ (un:=⟨false,some [0,1,4,5,10,14,25]⟩) tok nF aL (fun k:Int=>⟨[(5,⟨[], .c (.s (.int .i64 k))⟩),(4,⟨[], .c (.s (.tt false))⟩),(1,⟨[], .c (.s (.hs 1))⟩),(0,⟨[], .c (.s (.hs 0))⟩)],[(0, .vec false .pt a),(1, .vec false .pt b)],2⟩)
  (fun k=>SmJ a b k) (fun k=>(aY a - k).toNat) 0 i0 ?_ (fun _ i hi=>by have:=hWr i hi;simp at this;show i < 2;omega) ?_)
 ·exact⟨⟨⟨rfl,rfl,fun _=>rfl⟩,⟨rfl,rfl,fun _=>rfl⟩,⟨rfl,rfl,fun _=>rfl⟩,⟨rfl,rfl,fun _=>rfl⟩,trivial⟩,⟨aF rfl,aF rfl,trivial⟩,rfl,rfl⟩
 clear i0
 rintro k hJ A2 L2 k2 hA2 hL2 hnext hexit hret
 have st:=fun hb=>ZE hl he hJ A2 hA2 I hI hb
 have en:=fun hb=>agJ he hJ A2 hA2 I hI hb
 clear hJ
 cbv
 repeat' with_reducible first | (intro hb;cbv) | refine UM ?_ ?_
 all_goals first | exact(st (by assumption)).o1 | exact(st (by assumption)).o2 | assumption | skip
 ·have e:=(st (by assumption)).no hb
  apply hret
  clear hexit hnext hret st en
  subst hI
  cbv
  exact hk _ _ (bW.pure rfl rfl fun ρ=>dT e)
 ·have st:=st (by assumption)
  refine hnext _ (k+1) (st.nx hb) st.ms ?_
  have ead:=st.ad
  subst hA2 hA
  exact⟨⟨⟨rfl,rfl,leI ead⟩,⟨rfl,rfl,fun _=>rfl⟩,⟨rfl,rfl,fun _=>rfl⟩,⟨rfl,rfl,fun _=>rfl⟩,trivial⟩,⟨aF rfl,aF rfl,trivial⟩,rfl,rfl⟩
 ·have e:=en hb
  apply hexit
  clear hexit hnext hret st en
  subst hI
  cbv
  exact hk _ _ (bW.pure rfl rfl fun ρ=>dT e)
end Go.Eng
