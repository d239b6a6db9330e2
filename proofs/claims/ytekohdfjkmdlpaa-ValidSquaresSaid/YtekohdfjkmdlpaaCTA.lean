
import Derived.Test.YtekohdfjkmdlpaaCRB
import Derived.Test.YtekohdfjkmdlpaaCMB
import Derived.Test.YtekohdfjkmdlpaaSpecFA
import Derived.Test.YtekohdfjkmdlpaaEngZA
set_option linter.all false
set_option exponentiation.threshold 3000
namespace Go.Eng
open Go.Proofs
set_option maxRecDepth 100000
set_option linter.all false
set_option exponentiation.threshold 3000
set_option maxHeartbeats 2000000
theorem Mag.sub {l:List Int} {n:Nat} (h:Mag l) (hn:n≤aM l):Mag (bS n):=Mag.lt (Nat.lt_of_le_of_lt hn h.small) (Nat.le_refl _)
def tG8 (A:Alg) (S:SW) (V:SV) (X:SX) (M:SM) (F:SF) (H:SH):List (Nat×bU):=((tG7 A S V X M F H)++(R2 A S V X M))
theorem OG:COK Try.prog (aN (tG8 aA aV aS bR aZ aO bD)):=It QQ ON
def tT1 (A:Alg) (S:SW) (V:SV) (X:SX) (M:SM) (F:SF) (H:SH):List (Nat×bU):=((tG8 A S V X M F H))
theorem OT:COK Try.prog (aN (tT1 aA aV aS bR aZ aO bD)):=OG
def tT2 (A:Alg) (S:SW) (V:SV) (X:SX) (M:SM) (F:SF) (H:SH):List (Nat×bU):=((tT1 A S V X M F H))
theorem LL:COK Try.prog (aN (tT2 aA aV aS bR aZ aO bD)):=OT
def qO (A:Alg) (H:SH):List CV→List Blk→Option LR
 | [.s (.int .i64 n)],[]=>some ⟨[A.cmp .leq (-9223372036854775808) n,A.cmp .lss n 9223372036854775808], .c (.g [.R (H.whole n)]),[]⟩
 | _,_=>none
theorem rC:aJ Try.prog 18 (aC [.v] aA (qO aA bD)):=by
 refine aH (un:=⟨false,some [0,2]⟩) tok LL aL (fn:=Try.f18) (by kernel_rfl) (by kernel_rfl) (by kernel_rfl) (by decide +kernel) ?_
 intro w Wr args bs r hg ho hWr A L k hA hL hk
 obtain⟨F,hF⟩: ∃ F,F=aO:=⟨_,rfl⟩
 obtain⟨H,hH⟩: ∃ H,H=bD:=⟨_,rfl⟩
 obtain⟨M,hM⟩: ∃ M,M=aZ:=⟨_,rfl⟩
 obtain⟨S,hS⟩: ∃ S,S=aV:=⟨_,rfl⟩
 obtain⟨V,hV⟩: ∃ V,V=aS:=⟨_,rfl⟩
 obtain⟨X,hX⟩: ∃ X,X=bR:=⟨_,rfl⟩
 (try rw[← hF])
 (try rw[← hH])
 (try rw[← hM])
 (try rw[← hS])
 (try rw[← hV])
 (try rw[← hX])
 (try rw[← hA])
 unfold qO at hg
 split at hg
 rotate_left
 ·cases hg
 simp only[Option.some.injEq] at hg
 subst hg
 rename_i n
 have o1:=(aG ho).1
 have o2:=(aG (aG ho).2).1
 clear ho
 have e:(⟨S.from64 n,S.from64 1⟩:Rt)=H.whole n:=by
  simp only[aA,aP,decide_eq_true_eq] at o1 o2
  subst hS hH
  exact(q8 (by show n.natAbs < 2 ^ 64;omega)).2.2
 have j1:A.cmp .leq (-9223372036854775808) 1=true:=bJ A hA _ _ (by omega)
 have j2:A.cmp .lss 1 9223372036854775808=true:=bH A hA _ _ (by omega)
 rw[← hA] at o1 o2
 cbv
 repeat' first | (with_reducible intro hb;cbv) | with_reducible refine And.intro ?_ ?_
 all_goals first | exact o1 | exact o2 | exact j1 | exact j2 | skip
 refine hk _ _ (bE.pure rfl fun ρ=>?_)
 subst hS hH
 exact yR e
end Go.Eng
namespace Go.Eng
open Go.Proofs
set_option maxRecDepth 100000
set_option linter.all false
set_option exponentiation.threshold 3000
set_option maxHeartbeats 2000000
end Go.Eng
namespace Go.Eng
open Go.Proofs
set_option maxRecDepth 100000
set_option linter.all false
set_option exponentiation.threshold 3000
set_option maxHeartbeats 2000000
section
variable {ρ:Rho} {f:Nat→Nat}
end
end Go.Eng
namespace Go.Eng
open Go.Proofs
set_option maxRecDepth 100000
set_option linter.all false
set_option exponentiation.threshold 3000
set_option maxHeartbeats 2000000
end Go.Eng
namespace Go.Eng
open Go.Proofs
set_option maxRecDepth 100000
set_option linter.all false
set_option exponentiation.threshold 3000
set_option maxHeartbeats 2000000
section
variable {ρ:Rho} {f:Nat→Nat}
end
end Go.Eng
namespace Go.Eng
open Go.Proofs
set_option maxRecDepth 100000
set_option linter.all false
set_option exponentiation.threshold 3000
set_option maxHeartbeats 2000000
end Go.Eng
namespace Go.Eng
open Go.Proofs
set_option maxRecDepth 100000
set_option linter.all false
set_option exponentiation.threshold 3000
set_option maxHeartbeats 2000000
end Go.Eng

