
import Derived.Test.YtlonkgccgccieaaSpecP2
set_option linter.all false
set_option exponentiation.threshold 3000
set_option maxRecDepth 100000
set_option maxHeartbeats 2000000
namespace Go.Eng
theorem acT {α:Type} {l:List α} (h:aA.cmp .lss (aA.len l) 1000000=true):aY l < 1000000:=by
 simp only[aA,aP,decide_eq_true_eq] at h
 unfold aY;omega
def RvG {α:Type} (l:List α) (i j:Int) (M:List α):Prop:=0≤i∧2*i≤l.length∧j=(l.length:Int) - 1 - i∧M.length=l.length∧
 ∀ k:Nat,k < l.length→M[k]? =if(k:Int) < i∨j < k then l.reverse[k]? else l[k]?
theorem RvG.init {α:Type} (l:List α):RvG l 0 ((l.length:Int) - 1) l:=by
 refine⟨Int.le_refl 0,by omega,by omega,rfl,fun k hk=>?_⟩
 rw[if_neg (by omega)]
end Go.Eng
