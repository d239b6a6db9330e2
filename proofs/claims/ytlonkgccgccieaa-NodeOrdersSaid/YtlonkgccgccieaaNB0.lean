
import Derived.Test.YtlonkgccgccieaaNA4
import Derived.Test.YtlonkgccgccieaaNA2
import Derived.Test.YtlonkgccgccieaaCH8
import Derived.Test.YtlonkgccgccieaaCUA
import Derived.Test.YtlonkgccgccieaaCTA
set_option linter.all false
set_option exponentiation.threshold 3000
set_option maxRecDepth 100000
set_option maxHeartbeats 4000000
namespace Go.Eng
open Go.Proofs
def aiD:List CV→List Blk→Option LW
 | [],[]=>some ⟨[], .c (.s (.bool true)),[],[]⟩
 | _,_=>none
def nB0 (A:Alg) (H:SH) (I:SP) (P:SNd):List (Nat×bU):=(43,aC [.v, .v] A (FD A H)) :: (37,aR [.a (.s .pt)] A (ajA A I)) :: (42,aR [.a (.s (.row [.int .i64, .int .i64, .int .i64, .P, .P, .P]))] A (ajT A I P)) :: (39,aR [.a (.s .pt), .a .v] A (ajG A I)) :: ([])
theorem alQ:COK Try.prog (aN (nB0 aA bD f7 eE)):=aB HZ (aB aiL (aB ajK (aB aiT (bC))))
theorem aiI:aJ Try.prog 35 (aR [] aA (aiD)):=by
 refine aW (un:=⟨false,some [1000050,0,1,2,3,4]⟩) tok alQ aL (fn:=Try.f35) ?_
 intro w Wr args bs r hg ho hWr A L k hA hL hk
 obtain⟨H,hH⟩:=exE bD
 obtain⟨I,hI⟩:=exE f7
 obtain⟨P,hP⟩:=exE eE
 try rw[← hH]
 try rw[← hI]
 try rw[← hP]
 try rw[← hA]
 unfold aiD at hg
 split at hg <;> cases hg
 cbv
 repeat' with_reducible first | (intro hb;cbv) | refine UM ?_ ?_
 all_goals first | ((try subst hA);(try subst hS);(try subst hR);(try subst hX);(try subst hC);(try subst hV);(try subst hT);(try subst hM);(try subst hF);(try subst hH);(try subst hK);(try subst hJ);(try subst hE);(try subst hD);(try subst hU);(try subst hW);(try subst hI);(try subst hP);decide +kernel) | skip
 subst hA hH hI hP
 first | refine Or.inl ?_ | skip
 repeat' first | (refine And.intro ?_ ?_;(first | decide +kernel | fail)) | exact hk _ _ (bW.pure rfl rfl fun ρ=>dB (by decide +kernel))
end Go.Eng
