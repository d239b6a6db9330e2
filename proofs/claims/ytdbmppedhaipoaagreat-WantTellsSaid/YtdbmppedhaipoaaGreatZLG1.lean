
import Derived.Test.YtdbmppedhaipoaaGreatZLG0
set_option linter.all false
set_option exponentiation.threshold 3000
set_option maxRecDepth 100000
set_option maxHeartbeats 2000000
namespace Go.Eng
open Go.Proofs
def gWT (A:Alg) (U:SU):List CV→List Blk→Option LW
 | [.g [.s (.hs 0), .s (.hs 1), .s (.hs 2)], .g [.s (.int .i64 h), .s (.int .i64 c), .s (.hs 3)], .g [.s (.int .i64 x), .s (.int .i64 y), .s (.int .i64 s)]],[.vec false .i3 V, .vec false .i3 S, .vec false .pt l, .vec false .i3 Z]=>some ⟨[A.cmp .leq (-9223372036854775808) h,A.cmp .lss h 9223372036854775808,A.cmp .leq (-9223372036854775808) c,A.cmp .lss c 9223372036854775808,U.inb V,U.inb S,U.inb Z], .c (.s (.bool true)),[],[]⟩
 | _,_=>none
def uK1 (A:Alg) (U:SU) (W:SI):List (Nat×bU):=(23,aR [] A (x6)) :: (24,aR [.g [.s .i3, .s .i3, .s .pt]] A (PR A)) :: (25,aR [.g [.s .i3, .s .i3, .s .pt], .g [.v, .v, .s .i3], .a .v] A (VI U W)) :: (26,aR [.g [.s .i3, .s .i3, .s .pt], .g [.v, .v, .s .i3], .a .v] A (VI U W)) :: (27,aR [.g [.v, .v, .s .i3], .a .v] A (WT W)) :: (28,aR [.g [.v, .v, .s .i3], .a .v] A (WT W)) :: ([])
theorem abT:COK Tryz.prog (aN (uK1 aA bN UW)):=aB VY (aB ZZ (aB V3 (aB aaJ (aB Xh (aB Z9 (bC))))))
theorem ZT:aJ Tryz.prog 7 (aR [.g [.s .i3, .s .i3, .s .pt], .g [.v, .v, .s .i3], .a .v] aA (gWT aA bN)):=by
 refine aW (un:=⟨false,some [0,1,2,3,4,5,6,8,17]⟩) tok abT aL (fn:=Tryz.f7) ?_
 intro w Wr args bs r hg ho hWr A L k hA hL hk
 obtain⟨U,hU⟩:=exE bN
 obtain⟨W,hW⟩:=exE UW
 try rw[← hU]
 try rw[← hW]
 try rw[← hA]
 unfold gWT at hg
 split at hg <;> cases hg
 rename_i h c x y s V S l Z
 have bv:=(aG (aG (aG (aG (aG ho).2).2).2).2).1
 rw[← hU] at bv
 clear ho
 have bb: ∀ b,A.beq b b=true:=fun b=>by subst hA;show(b == b)=true;cases b <;> rfl
 have bn: ∀ n:Int,A.cmp .eql n n=true:=fun n=>by subst hA;show(n == n)=true;simp
 have i1:A.ite true true false=true:=by subst hA;rfl
 cbv
 repeat' with_reducible first | (intro hb;cbv) | refine UM ?_ ?_
 all_goals first | exact bv | skip
 ·exfalso;subst hA;cases hb
 ·exact hk _ _ (bW.pure rfl rfl fun ρ=>dT rfl)
 ·refine hk _ _ (bW.pure rfl rfl fun ρ=>dB ?_)
  simp only[bb,bn,i1]
end Go.Eng
