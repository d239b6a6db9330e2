
import Derived.Test.YtekohdfjkmdlpaaGreatZLV0
set_option linter.all false
set_option exponentiation.threshold 3000
namespace Go.Eng
open Go.Proofs
set_option maxRecDepth 100000
set_option linter.all false
set_option exponentiation.threshold 3000
set_option maxHeartbeats 2000000
def gVT (A:Alg) (U:SU):List CV→List Blk→Option LW
 | [.g [.s (.hs 0), .s (.hs 1), .s (.hs 2)], .s (.int .i64 i)],[.vec false .i3 V, .vec false .i3 S, .vec false .pt l]=>some ⟨[A.cmp .leq (-9223372036854775808) i,A.cmp .lss i 9223372036854775808,U.inb V,U.inb S], .c (.s (.bool true)),[],[]⟩
 | _,_=>none
def uD1 (A:Alg) (U:SU) (O:SO) (H:SH):List (Nat×bU):=(30,aR [] A (x6)) :: (31,aR [.g [.s .i3, .s .i3, .s .pt]] A (PR A)) :: (32,aR [.g [.s .i3, .s .i3, .s .pt]] A (uI U)) :: (33,aR [.g [.s .i3, .s .i3, .s .pt]] A (xV U O)) :: (34,aR [.g [.s .i3, .s .i3, .s .pt], .a .v] A (E8 U)) :: (35,aR [.g [.s .i3, .s .i3, .s .pt], .a .v] A (E8 U)) :: ([])
theorem Rr:COK Tryz.prog (aN (uD1 aA bN pE bD)):=aB DI (aB Ko (aB wE (aB DU (aB DZ (aB DW (bC))))))
theorem vA:aJ Tryz.prog 4 (aR [.g [.s .i3, .s .i3, .s .pt], .a .v] aA (gVT aA bN)):=by
 refine aW (un:=⟨false,some [0,1,2,4,6,9]⟩) tok Rr aL (fn:=Tryz.f4) (by kernel_rfl) (by kernel_rfl) (by kernel_rfl) (by decide +kernel) ?_
 intro w Wr args bs r hg ho hWr A L k hA hL hk
 obtain⟨H,hH⟩: ∃ H,H=bD:=⟨_,rfl⟩
 obtain⟨O,hO⟩: ∃ O,O=pE:=⟨_,rfl⟩
 obtain⟨U,hU⟩: ∃ U,U=bN:=⟨_,rfl⟩
 (try rw[← hH])
 (try rw[← hO])
 (try rw[← hU])
 (try rw[← hA])
 unfold gVT at hg
 split at hg
 rotate_left
 ·cases hg
 simp only[Option.some.injEq] at hg
 subst hg
 rename_i i V S l
 have b1:=(aG ho).1;replace ho:=(aG ho).2
 have b2:=(aG ho).1;replace ho:=(aG ho).2
 have bv:=(aG ho).1;replace ho:=(aG ho).2
 have bs:=(aG ho).1;replace ho:=(aG ho).2
 clear ho
 simp only[aA,aP,decide_eq_true_eq] at b1 b2 bv bs
 rw[← hU] at bv bs
 have eq:=SE A hA
 have im: ∀ b c,c=true→A.imp b c=true:=fun b c h=>by rw[h,hA];cases b <;> rfl
 have ck:U.check V S l=O.check V S l:=by rw[hU,hO];exact Fr V S l
 cbv
 repeat' first | (with_reducible intro hb;cbv) | with_reducible refine And.intro ?_ ?_
 ·exfalso;subst hA;cases hb
 ·exact hk _ _ (bW.pure rfl rfl fun ρ=>dT rfl)
 ·exact bv
 ·exact bv
 ·exact im _ _ bv
 ·exact im _ _ bv
 refine hk _ _ (bW.pure rfl rfl fun ρ=>dB ?_)
 simp only[ck,eq.b,eq.i,eq.r,eq.t,eq.p]
 all_goals skip
end Go.Eng

