
import Derived.Test.YtbfknjpggfkgjaaGreatSpecU
import Derived.Test.YtbfknjpggfkgjaaGreatSpecLm
set_option linter.all false
set_option exponentiation.threshold 3000
set_option maxRecDepth 100000
set_option maxHeartbeats 2000000
namespace Go.Eng
def bsF (l:List Pt) (p:Pt):Nat→Int→Int→Int
 | 0,i,_=>i
 | f+1,i,j=>if i < j then(if bD.cmp (pC l ((i+j) / 2)) p < 0 then bsF l p f ((i+j) / 2+1) j else bsF l p f i ((i+j) / 2)) else i
def v5 (l:List Pt) (p:Pt):Int:=bsF l p l.length 0 l.length
def i8 (l:List Pt) (p:Pt):Bool:=decide (v5 l p < aY l)&&decide (bD.cmp (pC l (v5 l p)) p=0)
theorem acQ (l:List Pt) (p:Pt) {f:Nat} {i j:Int} (hf:j - i≤f) (h:i < j): ∃ g:Nat,g+1=f∧bsF l p f i j=if bD.cmp (pC l ((i+j) / 2)) p < 0 then bsF l p g ((i+j) / 2+1) j else bsF l p g i ((i+j) / 2):=by
 cases f with
 | zero=>omega
 | succ g=>exact⟨g,rfl,by rw[bsF,if_pos h]⟩
theorem acP (l:List Pt) (p:Pt) (f:Nat) {i j:Int} (h: ¬ i < j):bsF l p f i j=i:=by
 cases f with
 | zero=>rfl
 | succ g=>rw[bsF,if_neg h]
theorem ac4 (l:List Pt) (p:Pt): ∀ (f:Nat) (i j:Int),i≤j→i≤bsF l p f i j∧bsF l p f i j≤j
 | 0,i,j,h=>⟨Int.le_refl _,h⟩
 | f+1,i,j,h=>by
  unfold bsF
  split
  ·split
   ·have:=ac4 l p f ((i+j) / 2+1) j (by omega);omega
   ·have:=ac4 l p f i ((i+j) / 2) (by omega);omega
  ·omega
theorem UV (l:List Pt) (p:Pt):0≤v5 l p∧v5 l p≤aY l:=ac4 l p _ 0 _ (Int.natCast_nonneg _)
structure Z4 (l:List Pt):Prop where
 ok: ∀ k,0≤k→k < aY l→dJ (pC l k)=true
 lt: ∀ i j,0≤i→i < j→j < aY l→iQ (pC l i) (pC l j) < 0
theorem VJ {a b:Pt} (ha:dJ a=true) (hb:dJ b=true):bD.cmp a b=iQ a b:=zG (Po ha hb)
theorem ac5 {l:List Pt} (hl:Z4 l) {p:Pt} (hp:dJ p=true): ∀ (f:Nat) (i j:Int),j - i≤f→0≤i→i≤j→j≤aY l→
  (∀ k,0≤k→k < i→iQ (pC l k) p < 0)→(∀ k,j≤k→k < aY l→ ¬ iQ (pC l k) p < 0)→
  (∀ k,0≤k→k < bsF l p f i j→iQ (pC l k) p < 0)∧(∀ k,bsF l p f i j≤k→k < aY l→ ¬ iQ (pC l k) p < 0)
 | f,i,j,hf,h0,h1,h2,lo,hi=>by
  by_cases hij:i < j
  ·obtain⟨g,hg,e⟩:=acQ l p hf hij
   have hm0:0≤(i+j) / 2:=by omega
   have hm1:(i+j) / 2 < aY l:=by omega
   rw[e,VJ (hl.ok _ hm0 hm1) hp]
   split
   ·rename_i hc
    refine ac5 hl hp g _ _ (by omega) (by omega) (by omega) h2 (fun k k0 k1=>?_) hi
    by_cases hk:k=(i+j) / 2
    ·rw[hk];exact hc
    ·exact tV (hl.lt k _ k0 (by omega) hm1) hc
   ·rename_i hc
    refine ac5 hl hp g _ _ (by omega) h0 (by omega) (by omega) lo (fun k k0 k1=>?_)
    by_cases hk:k=(i+j) / 2
    ·rw[hk];exact hc
    ·exact fun h=>hc (tV (hl.lt _ k hm0 (by omega) k1) h)
  ·rw[acP l p f hij]
   exact⟨lo,fun k k0 k1=>hi k (by omega) k1⟩
 termination_by f=>f
theorem acW {l:List Pt} (hl:Z4 l) {p:Pt} (hp:dJ p=true):(∀ k,0≤k→k < v5 l p→iQ (pC l k) p < 0)∧(∀ k,v5 l p≤k→k < aY l→ ¬ iQ (pC l k) p < 0):=
 ac5 hl hp l.length 0 l.length (by omega) (Int.le_refl _) (Int.natCast_nonneg _) (Int.le_refl _) (fun k k0 k1=>by omega) (fun k k0 k1=>by unfold aY at k1;omega)
end Go.Eng
