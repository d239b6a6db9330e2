
import Derived.Test.YtdbmppedhaipoaaGreatZLE0
import Derived.Test.YtdbmppedhaipoaaGreatSpecBA
set_option linter.all false
set_option exponentiation.threshold 3000
set_option maxRecDepth 100000
set_option maxHeartbeats 2000000
namespace Go.Eng
open Go.Proofs
def uH0 (A:Alg) (C:SC):List (Nat×bU):=(15,aC [.v] A (Wq C)) :: ([])
theorem Zf:COK Tryz.prog (aN (uH0 aA UT)):=aB Vk (bC)
theorem W9:aJ Tryz.prog 20 (aC [.v] aA (XG aA UT)):=by
 refine aH (un:=⟨false,some [1,2,3,11]⟩) tok Zf aL (fn:=Tryz.f20) ?_
 intro w Wr args bs r hg ho hWr A L k hA hL hk
 obtain⟨C,hC⟩:=exE UT
 try rw[← hC]
 try rw[← hA]
 unfold XG at hg
 split at hg <;> cases hg
 rename_i x y s
 have o1:UT.is x y s=true:=(aG ho).1
 have o2:(s != 1)=true:=(aG (aG ho).2).1
 clear ho
 cbv
 repeat' with_reducible first | (intro hb;cbv) | refine UM ?_ ?_
 ·exfalso
  subst hA hC
  have hb:(if(!UT.is x y s)=true then true else(s == 1))=true:=hb
  rw[o1] at hb
  simp at hb o2
  exact o2 hb
 ·exact hk _ _ (bE.pure rfl fun ρ=>by subst hA;rfl)
end Go.Eng
