
import Derived.Test.YtbfknjpggfkgjaaGreatSpecP2
set_option linter.all false
set_option exponentiation.threshold 3000
set_option maxRecDepth 100000
set_option maxHeartbeats 2000000
namespace Go.Eng
theorem acT {α:Type} {l:List α} (h:aA.cmp .lss (aA.len l) 1000000=true):aY l < 1000000:=by
 simp only[aA,aP,decide_eq_true_eq] at h
 unfold aY;omega
def RvG {α:Type} (l:List α) (i j:Int) (M:List α):Prop:=0≤i∧2*i≤l.length∧j=(l.length:Int) - 1 - i∧M.length=l.length∧
 ∀ k:Nat,k < l.length→M[k]? =if(k:Int) < i∨j < k then l.reverse[k]? else l[k]?
theorem RvG.init {α:Type} (l:List α):RvG l 0 ((l.length:Int) - 1) l:=by
 refine⟨Int.le_refl 0,by omega,by omega,rfl,fun k hk=>?_⟩
 rw[if_neg (by omega)]
theorem adQ {α:Type} {l:List α} {i j:Int} {M:List α} (h:RvG l i j M) (d:α) (hb:i < j):0≤i∧i < (M.length:Int)∧0≤j∧j < (M.length:Int)∧RvG l (i+1) (j - 1) ((M.set i.toNat (M.getD j.toNat d)).set j.toNat (M.getD i.toNat d)):=by
 obtain⟨i0,i1,hj,hM,hk⟩:=h
 refine⟨i0,by omega,by omega,by omega,by omega,by omega,by omega,by rw[List.length_set,List.length_set,hM],fun k hkl=>?_⟩
 have hmi:M[i.toNat]? =l[i.toNat]? :=by rw[hk i.toNat (by omega),if_neg (by omega)]
 have hmj:M[j.toNat]? =l[j.toNat]? :=by rw[hk j.toNat (by omega),if_neg (by omega)]
 have hri:l.reverse[i.toNat]? =l[j.toNat]? :=by rw[List.getElem?_reverse (by omega)];congr 1;omega
 have hrj:l.reverse[j.toNat]? =l[i.toNat]? :=by rw[List.getElem?_reverse (by omega)];congr 1;omega
 have gi:M.getD i.toNat d=(M[i.toNat]?).getD d:=List.getD_eq_getElem?_getD
 have gj:M.getD j.toNat d=(M[j.toNat]?).getD d:=List.getD_eq_getElem?_getD
 by_cases h1:k=j.toNat
 ·subst h1
  rw[List.getElem?_set_self (by rw[List.length_set,hM];omega),if_pos (by omega),hrj,gi,hmi,List.getElem?_eq_getElem (by omega)];rfl
 ·rw[List.getElem?_set_ne (by omega)]
  by_cases h2:k=i.toNat
  ·subst h2
   rw[List.getElem?_set_self (by omega),if_pos (by omega),hri,gj,hmj,List.getElem?_eq_getElem (by omega)];rfl
  ·rw[List.getElem?_set_ne (by omega),hk k hkl]
   by_cases h3:(k:Int) < i∨j < k
   ·rw[if_pos h3,if_pos (by omega)]
   ·rw[if_neg h3,if_neg (by omega)]
theorem aeB {α:Type} {l:List α} {i j:Int} {M:List α} (h:RvG l i j M) (hb: ¬ i < j):M=l.reverse:=by
 obtain⟨i0,i1,hj,hM,hk⟩:=h
 apply List.ext_getElem?
 intro k
 rcases Nat.lt_or_ge k l.length with h | h
 ·rw[hk k h]
  split
  ·rfl
  ·rw[List.getElem?_reverse h];congr 1;omega
 ·rw[List.getElem?_eq_none (by omega),List.getElem?_eq_none (by rw[List.length_reverse];omega)]
end Go.Eng
