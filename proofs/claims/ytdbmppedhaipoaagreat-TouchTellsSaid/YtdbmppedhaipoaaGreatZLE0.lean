
import Derived.Test.YtdbmppedhaipoaaGreatZCE8
import Derived.Test.YtdbmppedhaipoaaGreatZCTA
import Derived.Test.YtdbmppedhaipoaaGreatEngZA
set_option linter.all false
set_option exponentiation.threshold 3000
set_option maxRecDepth 100000
set_option maxHeartbeats 2000000
namespace Go.Eng
open Go.Proofs
def sqV (A:Alg) (x y n:Int):List (Int×Int×Int):=[(x,y,0),(A.bin .add .i64 x n,y,0),(A.bin .add .i64 x n,A.bin .add .i64 y n,0),(x,A.bin .add .i64 y n,0)]
def sqS:List (Int×Int×Int):=[(0,1,1),(1,2,2),(2,3,3),(3,0,4)]
def x8 (A:Alg):List CV→List Blk→Option LW
 | [.s (.int .i64 x), .s (.int .i64 y), .s (.int .i64 n)],[]=>some ⟨[], .c (.g [.s (.hs 0), .s (.hs 1), .s .nils]),[.vec true .i3 [(x,y,0),(A.bin .add .i64 x n,y,0),(A.bin .add .i64 x n,A.bin .add .i64 y n,0),(x,A.bin .add .i64 y n,0)], .vec true .i3 [(0,1,1),(1,2,2),(2,3,3),(3,0,4)]],[]⟩
 | _,_=>none
theorem V9:aJ Tryz.prog 30 (aR [.a .v, .a .v, .a .v] aA (x8 aA)):=by
 refine aW (un:=⟨false,some [0,1,2,6]⟩) tok nF aL (fn:=Tryz.f30) ?_
 intro w Wr args bs r hg ho hWr A L k hA hL hk
 try rw[← hA]
 unfold x8 at hg
 split at hg <;> cases hg
 cbv
 refine hk _ _ (bW.two (t:=1) (u:=2) rfl rfl (Nat.zero_le _) (Nat.zero_le _) (by decide) (fun ρ=>?_) rfl (.vec ?_) rfl (.vec ?_))
 ·rfl
 ·subst hA;rfl
 ·rfl
def PR (A:Alg):List CV→List Blk→Option LW
 | [.g [.s (.hs 0), .s (.hs 1), .s (.hs 2)]],[.vec false .i3 V, .vec false .i3 S, .vec false .pt l]=>some ⟨[], .c (.s (.bool (A.ite (A.ite (A.cmp .leq (A.len V) 18) (A.cmp .leq (A.len S) 18) false) (A.cmp .leq (A.len l) 6) false))),[],[]⟩
 | _,_=>none
theorem W8:aJ Tryz.prog 11 (aR [.g [.s .i3, .s .i3, .s .pt]] aA (PR aA)):=by
 refine aW (un:=⟨false,some [0,1,2]⟩) tok nF aL (fn:=Tryz.f11) ?_
 intro w Wr args bs r hg ho hWr A L k hA hL hk
 try rw[← hA]
 unfold PR at hg
 split at hg <;> cases hg
 cbv
 refine hk _ _ (bW.pure rfl rfl fun ρ=>dB ?_)
 subst hA
 rfl
def Vs:List CV→List Blk→Option LW
 | [],[]=>some ⟨[], .c (.s (.bool true)),[],[]⟩
 | _,_=>none
structure Zu (A:Alg) (U:SU) (H:SH) (B:SB):Prop where
 i1:U.inb (sqV A 2 5 4)=true
 s1:B.seg 2 2 2 (H.at_ 0 6) (H.at_ 6 0)=true
 s2:B.seg 2 2 2 (H.at_ 0 4) (H.at_ 4 8)=false
 s3:B.seg 2 2 2 (H.at_ 4 4) (H.at_ 9 9)=true
 l1:A.len (B.all 0 4 4 (sqV A 2 5 4) sqS [])=2
 a1:B.any 2 2 2 (sqV A 2 5 4) sqS []=false
 a2:B.any 0 4 1 (sqV A 2 5 4) sqS []=false
 e: ∀ b,A.beq b b=true
 n: ∀ n:Int,A.cmp .eql n n=true
 i: ∀ b,A.ite true b false=b
 im: ∀ b c,c=true→A.imp b c=true
theorem YZ (A:Alg) (hA:A=aA) (U:SU) (hU:U=bN) (H:SH) (hH:H=bD) (B:SB) (hB:B=UP):Zu A U H B:=by
 subst hA hU hH hB
 exact⟨by decide +kernel,by decide +kernel,by decide +kernel,by decide +kernel,by decide +kernel,by decide +kernel,by decide +kernel,fun b=>by cases b <;> rfl,fun n=>by show(n == n)=true;simp,fun b=>rfl,fun b c h=>by rw[h];cases b <;> rfl⟩
def uG0 (A:Alg) (U:SU) (H:SH) (B:SB):List (Nat×bU):=(30,aR [.a .v, .a .v, .a .v] A (x8 A)) :: (17,aR [.g [.s .i3, .s .i3, .s .pt], .a .v] A (W2 U B)) :: (18,aR [.g [.s .i3, .s .i3, .s .pt], .a .v] A (W3 U B)) :: (12,aC [.v, .v, .v] A (VW B)) :: (21,aC [.v, .v] A (FD A H)) :: ([])
theorem Ze:COK Tryz.prog (aN (uG0 aA bN bD UP)):=aB V9 (aB WF (aB WG (aB Vt (aB HZ (bC)))))
theorem U2:aJ Tryz.prog 10 (aR [] aA (Vs)):=by
 refine aW (un:=⟨false,some [0,1,2,3]⟩) tok Ze aL (fn:=Tryz.f10) ?_
 intro w Wr args bs r hg ho hWr A L k hA hL hk
 obtain⟨B,hB⟩:=exE UP
 obtain⟨H,hH⟩:=exE bD
 obtain⟨U,hU⟩:=exE bN
 try rw[← hB]
 try rw[← hH]
 try rw[← hU]
 try rw[← hA]
 unfold Vs at hg
 split at hg <;> cases hg
 have kn:=YZ A hA U hU H hH B hB
 refine Ef rfl ?_
 with_reducible refine fA fun kk hn hx=>?_
 cbv
 repeat' with_reducible first | (intro hb;cbv) | refine UM ?_ ?_
 all_goals first | (with_reducible refine hn _ ?_;clear hn hx kk) | ((try subst hA);(try subst hS);(try subst hR);(try subst hX);(try subst hC);(try subst hV);(try subst hT);(try subst hM);(try subst hF);(try subst hH);(try subst hK);(try subst hJ);(try subst hE);(try subst hD);(try subst hU);decide +kernel)
 with_reducible refine fA fun kk hn hx=>?_
 cbv
 repeat' with_reducible first | (intro hb;cbv) | refine UM ?_ ?_
 all_goals first | (with_reducible refine hn _ ?_;clear hn hx kk) | ((try subst hA);(try subst hS);(try subst hR);(try subst hX);(try subst hC);(try subst hV);(try subst hT);(try subst hM);(try subst hF);(try subst hH);(try subst hK);(try subst hJ);(try subst hE);(try subst hD);(try subst hU);decide +kernel)
 with_reducible refine fA fun kk hn hx=>?_
 cbv
 repeat' with_reducible first | (intro hb;cbv) | refine UM ?_ ?_
 all_goals first | (with_reducible refine hn _ ?_;clear hn hx kk) | exact kn.i1 | ((try subst hA);(try subst hS);(try subst hR);(try subst hX);(try subst hC);(try subst hV);(try subst hT);(try subst hM);(try subst hF);(try subst hH);(try subst hK);(try subst hJ);(try subst hE);(try subst hD);(try subst hU);decide +kernel)
 cbv
 repeat' with_reducible first | (intro hb;cbv) | refine UM ?_ ?_
 all_goals first | exact kn.i1 | exact kn.im _ _ kn.i1 | ((try subst hA);(try subst hS);(try subst hR);(try subst hX);(try subst hC);(try subst hV);(try subst hT);(try subst hM);(try subst hF);(try subst hH);(try subst hK);(try subst hJ);(try subst hE);(try subst hD);(try subst hU);decide +kernel) | (refine kn.im _ _ ?_;(try subst hA);(try subst hS);(try subst hR);(try subst hX);(try subst hC);(try subst hV);(try subst hT);(try subst hM);(try subst hF);(try subst hH);(try subst hK);(try subst hJ);(try subst hE);(try subst hD);(try subst hU);decide +kernel) | skip
 refine hk _ _ (bW.pure rfl rfl fun ρ=>dB ?_)
 have l1:=kn.l1
 have a1:=kn.a1
 have a2:=kn.a2
 simp only[sqV,sqS] at l1 a1 a2
 simp only[kn.s1,kn.s2,kn.s3,l1,a1,a2,kn.e,kn.n,kn.i]
 all_goals fail
end Go.Eng
