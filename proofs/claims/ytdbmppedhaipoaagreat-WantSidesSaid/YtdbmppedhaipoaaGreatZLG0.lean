
import Derived.Test.YtdbmppedhaipoaaGreatZCGA
import Derived.Test.YtdbmppedhaipoaaGreatZCTA
import Derived.Test.YtdbmppedhaipoaaGreatEngZA
set_option linter.all false
set_option exponentiation.threshold 3000
set_option maxRecDepth 100000
set_option maxHeartbeats 2000000
namespace Go.Eng
open Go.Proofs
theorem Xi:aJ Tryz.prog 29 (aR [.a .v, .a .v, .a .v] aA (x8 aA)):=by
 refine aW (un:=⟨false,some [0,1,2,6]⟩) tok nF aL (fn:=Tryz.f29) ?_
 intro w Wr args bs r hg ho hWr A L k hA hL hk
 try rw[← hA]
 unfold x8 at hg
 split at hg <;> cases hg
 cbv
 refine hk _ _ (bW.two (t:=1) (u:=2) rfl rfl (Nat.zero_le _) (Nat.zero_le _) (by decide) (fun ρ=>?_) rfl (.vec ?_) rfl (.vec ?_))
 ·rfl
 ·subst hA;rfl
 ·rfl
theorem ZZ:aJ Tryz.prog 24 (aR [.g [.s .i3, .s .i3, .s .pt]] aA (PR aA)):=by
 refine aW (un:=⟨false,some [0,1,2]⟩) tok nF aL (fn:=Tryz.f24) ?_
 intro w Wr args bs r hg ho hWr A L k hA hL hk
 try rw[← hA]
 unfold PR at hg
 split at hg <;> cases hg
 cbv
 refine hk _ _ (bW.pure rfl rfl fun ρ=>dB ?_)
 subst hA
 rfl
def aaY:List CV→List Blk→Option LR
 | [],[]=>some ⟨[], .c (.g [.s (.int .i64 0), .s (.int .i64 0), .s (.int .i64 64)]),[]⟩
 | _,_=>none
theorem aaK:aJ Tryz.prog 45 (aC [] aA (aaY)):=by
 refine aH (un:=⟨false,none⟩) tok nF aL (fn:=Tryz.f45) ?_
 intro w Wr args bs r hg ho hWr A L k hA hL hk
 try rw[← hA]
 unfold aaY at hg
 split at hg <;> cases hg
 cbv
 exact hk _ _ (bE.pure rfl fun ρ=>rfl)
structure ab1 (A:Alg) (U:SU) (W:SI):Prop where
 i1:U.inb (sqV A 1 1 4)=true
 m1:W.must (sqV A 1 1 4) sqS [] 8 9 [(32,32,2)] 0 0 64=true
 m2:W.must (sqV A 1 1 4) sqS [] 8 9 [(32,32,2)] 1 1 1=false
 m3:W.must (sqV A 1 1 4) sqS [] 8 9 [(32,32,2)] 32 32 4=true
 m4:W.must (sqV A 1 1 4) sqS [] 8 9 [(32,32,2)] 40 40 8=false
 l1:W.lim 8 9 [(32,32,2)] 32 32 4=2
 l2:W.lim 8 9 [(32,32,2)] 40 40 8=8
 l3:W.lim 0 0 [] 0 0 64=0
 n: ∀ n:Int,A.cmp .eql n n=true
 nt:A.not false=true
 i: ∀ b,A.ite true b false=b
 im: ∀ b c,c=true→A.imp b c=true
theorem abN (A:Alg) (hA:A=aA) (U:SU) (hU:U=bN) (W:SI) (hW:W=UW):ab1 A U W:=by
 subst hA hU hW
 exact⟨by decide +kernel,by decide +kernel,by decide +kernel,by decide +kernel,by decide +kernel,by decide +kernel,by decide +kernel,by decide +kernel,fun n=>by show(n == n)=true;simp,rfl,fun b=>rfl,fun b c h=>by rw[h];cases b <;> rfl⟩
def uK0 (A:Alg) (U:SU) (W:SI):List (Nat×bU):=(29,aR [.a .v, .a .v, .a .v] A (x8 A)) :: (25,aR [.g [.s .i3, .s .i3, .s .pt], .g [.v, .v, .s .i3], .a .v] A (VI U W)) :: (27,aR [.g [.v, .v, .s .i3], .a .v] A (WT W)) :: (45,aC [] A (aaY)) :: ([])
theorem abR:COK Tryz.prog (aN (uK0 aA bN UW)):=aB Xi (aB V3 (aB Xh (aB aaK (bC))))
theorem VY:aJ Tryz.prog 23 (aR [] aA (x6)):=by
 refine aW (un:=⟨false,some [0,1,2]⟩) tok abR aL (fn:=Tryz.f23) ?_
 intro w Wr args bs r hg ho hWr A L k hA hL hk
 obtain⟨U,hU⟩:=exE bN
 obtain⟨W,hW⟩:=exE UW
 try rw[← hU]
 try rw[← hW]
 try rw[← hA]
 unfold x6 at hg
 split at hg <;> cases hg
 have kn:=abN A hA U hU W hW
 refine Ef rfl ?_
 with_reducible refine fA fun kk hn hx=>?_
 cbv
 repeat' with_reducible first | (intro hb;cbv) | refine UM ?_ ?_
 all_goals first | (with_reducible refine hn _ ?_;clear hn hx kk) | ((try subst hA);(try subst hS);(try subst hR);(try subst hX);(try subst hC);(try subst hV);(try subst hT);(try subst hM);(try subst hF);(try subst hH);(try subst hK);(try subst hJ);(try subst hE);(try subst hD);(try subst hU);(try subst hW);decide +kernel)
 with_reducible refine fA fun kk hn hx=>?_
 cbv
 repeat' with_reducible first | (intro hb;cbv) | refine UM ?_ ?_
 all_goals first | (with_reducible refine hn _ ?_;clear hn hx kk) | ((try subst hA);(try subst hS);(try subst hR);(try subst hX);(try subst hC);(try subst hV);(try subst hT);(try subst hM);(try subst hF);(try subst hH);(try subst hK);(try subst hJ);(try subst hE);(try subst hD);(try subst hU);(try subst hW);decide +kernel)
 cbv
 repeat' with_reducible first | (intro hb;cbv) | refine UM ?_ ?_
 all_goals first | exact kn.i1 | exact kn.im _ _ kn.i1 | ((try subst hA);(try subst hS);(try subst hR);(try subst hX);(try subst hC);(try subst hV);(try subst hT);(try subst hM);(try subst hF);(try subst hH);(try subst hK);(try subst hJ);(try subst hE);(try subst hD);(try subst hU);(try subst hW);decide +kernel) | (refine kn.im _ _ ?_;(try subst hA);(try subst hS);(try subst hR);(try subst hX);(try subst hC);(try subst hV);(try subst hT);(try subst hM);(try subst hF);(try subst hH);(try subst hK);(try subst hJ);(try subst hE);(try subst hD);(try subst hU);(try subst hW);decide +kernel) | skip
 refine hk _ _ (bW.pure rfl rfl fun ρ=>dB ?_)
 have m1:=kn.m1
 have m2:=kn.m2
 have m3:=kn.m3
 have m4:=kn.m4
 simp only[sqV,sqS] at m1 m2 m3 m4
 simp only[m1,m2,m3,m4,kn.l1,kn.l2,kn.l3,kn.n,kn.nt,kn.i]
end Go.Eng
