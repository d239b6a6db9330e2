
import Derived.Test.YtekohdfjkmdlpaaCD8
import Derived.Test.YtekohdfjkmdlpaaCTA
import Derived.Test.YtekohdfjkmdlpaaSpecU
import Derived.Test.YtekohdfjkmdlpaaSpecFA
import Derived.Test.YtekohdfjkmdlpaaEngZA
set_option linter.all false
set_option exponentiation.threshold 3000
namespace Go.Eng
open Go.Proofs
set_option maxRecDepth 100000
set_option linter.all false
set_option exponentiation.threshold 3000
set_option maxHeartbeats 2000000
def sqV (A:Alg) (x y n:Int):List (Int×Int×Int):=[(x,y,0),(A.bin .add .i64 x n,y,0),(A.bin .add .i64 x n,A.bin .add .i64 y n,0),(x,A.bin .add .i64 y n,0)]
def sqS:List (Int×Int×Int):=[(0,1,1),(1,2,2),(2,3,3),(3,0,4)]
def x8 (A:Alg):List CV→List Blk→Option LW
 | [.s (.int .i64 x), .s (.int .i64 y), .s (.int .i64 n)],[]=>some ⟨[], .c (.g [.s (.hs 0), .s (.hs 1), .s .nils]),[.vec true .i3 [(x,y,0),(A.bin .add .i64 x n,y,0),(A.bin .add .i64 x n,A.bin .add .i64 y n,0),(x,A.bin .add .i64 y n,0)], .vec true .i3 [(0,1,1),(1,2,2),(2,3,3),(3,0,4)]],[]⟩
 | _,_=>none
theorem Bw:aJ Try.prog 6 (aR [.a .v, .a .v, .a .v] aA (x8 aA)):=by
 refine aW (un:=⟨false,some [0,1,2,6]⟩) tok nF aL (fn:=Try.f6) (by kernel_rfl) (by kernel_rfl) (by kernel_rfl) (by decide +kernel) ?_
 intro w Wr args bs r hg ho hWr A L k hA hL hk
 (try rw[← hA])
 unfold x8 at hg
 split at hg
 rotate_left
 ·cases hg
 simp only[Option.some.injEq] at hg
 subst hg
 cbv
 refine hk _ _ (bW.two (t:=1) (u:=2) rfl rfl (Nat.zero_le _) (Nat.zero_le _) (by decide) (fun ρ=>?_) rfl (.vec ?_) rfl (.vec ?_))
 ·rfl
 ·subst hA;rfl
 ·rfl
def UW:List CV→List Blk→Option LW
 | [],[]=>some ⟨[], .c (.s (.bool true)),[],[]⟩
 | _,_=>none
structure Kn9 (A:Alg) (U:SU) (H:SH):Prop where
 i1:U.inb (sqV A 1 1 4)=true
 c1:U.check (sqV A 1 1 4) sqS []=0
 c2:U.check (sqV A 1 1 4) sqS [H.at_ 1 2]=17
 i3:U.inb (A.set (sqV A 1 1 4) 2 (99,(A.get (sqV A 1 1 4) 2 (0,0,0)).2.1,(A.get (sqV A 1 1 4) 2 (0,0,0)).2.2))=true
 c3:U.check (A.set (sqV A 1 1 4) 2 (99,(A.get (sqV A 1 1 4) 2 (0,0,0)).2.1,(A.get (sqV A 1 1 4) 2 (0,0,0)).2.2)) sqS []=13
 i4:U.inb []=true
 c4:U.check [] [] []=10
 p1:U.pt (A.set (sqV A 1 1 4) 2 (99,(A.get (sqV A 1 1 4) 2 (0,0,0)).2.1,(A.get (sqV A 1 1 4) 2 (0,0,0)).2.2)) 1=H.at_ 5 1
 p2:U.pt (A.set (sqV A 1 1 4) 2 (99,(A.get (sqV A 1 1 4) 2 (0,0,0)).2.1,(A.get (sqV A 1 1 4) 2 (0,0,0)).2.2)) 9=H.at_ 0 0
 e: ∀ n:Int,A.cmp .eql n n=true
 i: ∀ b,A.ite true b false=b
 q: ∀ p:Pt,A.eqP p p=true
theorem SP (A:Alg) (hA:A=aA) (U:SU) (hU:U=bN) (H:SH) (hH:H=bD):Kn9 A U H:=by
 subst hA hU hH
 refine⟨by decide +kernel,by decide +kernel,by decide +kernel,by decide +kernel,by decide +kernel,by decide +kernel,by decide +kernel,by decide +kernel,by decide +kernel,fun n=>?_,fun b=>rfl,fun p=>?_⟩
 ·show(n == n)=true;simp
 ·exact HN rfl
def uD0 (A:Alg) (U:SU) (H:SH):List (Nat×bU):=(6,aR [.a .v, .a .v, .a .v] A (x8 A)) :: (7,aR [.g [.s .i3, .s .i3, .s .pt]] A (uI U)) :: (8,aC [.v, .v] A (FD A H)) :: (9,aR [.g [.s .i3, .s .i3, .s .pt], .a .v] A (E8 U)) :: ([])
theorem Rq:COK Try.prog (aN (uD0 aA bN bD)):=aB Bw (aB wE (aB HZ (aB DZ (bC))))
theorem DI:aJ Try.prog 5 (aR [] aA (UW)):=by
 refine aW (un:=⟨false,some [0,1,2,3,4]⟩) tok Rq aL (fn:=Try.f5) (by kernel_rfl) (by kernel_rfl) (by kernel_rfl) (by decide +kernel) ?_
 intro w Wr args bs r hg ho hWr A L k hA hL hk
 obtain⟨H,hH⟩: ∃ H,H=bD:=⟨_,rfl⟩
 obtain⟨U,hU⟩: ∃ U,U=bN:=⟨_,rfl⟩
 (try rw[← hH])
 (try rw[← hU])
 (try rw[← hA])
 unfold UW at hg
 split at hg
 rotate_left
 ·cases hg
 simp only[Option.some.injEq] at hg
 subst hg
 have kn:=SP A hA U hU H hH
 refine Ef rfl ?_
 with_reducible refine fA fun kk hn hx=>?_
 cbv
 repeat' first | (with_reducible intro hb;cbv) | with_reducible refine And.intro ?_ ?_
 all_goals first | (with_reducible refine hn _ ?_;clear hn hx kk) | ((try subst hA);(try subst hS);(try subst hR);(try subst hX);(try subst hC);(try subst hV);(try subst hT);(try subst hM);(try subst hF);(try subst hH);(try subst hK);(try subst hJ);(try subst hE);(try subst hD);(try subst hU);decide +kernel)
 with_reducible refine fA fun kk hn hx=>?_
 cbv
 repeat' first | (with_reducible intro hb;cbv) | with_reducible refine And.intro ?_ ?_
 all_goals first | (with_reducible refine hn _ ?_;clear hn hx kk) | ((try subst hA);(try subst hS);(try subst hR);(try subst hX);(try subst hC);(try subst hV);(try subst hT);(try subst hM);(try subst hF);(try subst hH);(try subst hK);(try subst hJ);(try subst hE);(try subst hD);(try subst hU);decide +kernel)
 with_reducible refine fA fun kk hn hx=>?_
 cbv
 repeat' first | (with_reducible intro hb;cbv) | with_reducible refine And.intro ?_ ?_
 all_goals first | (with_reducible refine hn _ ?_;clear hn hx kk) | exact kn.i1 | ((try subst hA);(try subst hS);(try subst hR);(try subst hX);(try subst hC);(try subst hV);(try subst hT);(try subst hM);(try subst hF);(try subst hH);(try subst hK);(try subst hJ);(try subst hE);(try subst hD);(try subst hU);decide +kernel)
 with_reducible refine fA fun kk hn hx=>?_
 cbv
 repeat' first | (with_reducible intro hb;cbv) | with_reducible refine And.intro ?_ ?_
 all_goals first | (with_reducible refine hn _ ?_;clear hn hx kk) | exact kn.i1 | ((try subst hA);(try subst hS);(try subst hR);(try subst hX);(try subst hC);(try subst hV);(try subst hT);(try subst hM);(try subst hF);(try subst hH);(try subst hK);(try subst hJ);(try subst hE);(try subst hD);(try subst hU);decide +kernel)
 with_reducible refine fA fun kk hn hx=>?_
 cbv
 repeat' first | (with_reducible intro hb;cbv) | with_reducible refine And.intro ?_ ?_
 all_goals first | (with_reducible refine hn _ ?_;clear hn hx kk) | exact kn.i1 | ((try subst hA);(try subst hS);(try subst hR);(try subst hX);(try subst hC);(try subst hV);(try subst hT);(try subst hM);(try subst hF);(try subst hH);(try subst hK);(try subst hJ);(try subst hE);(try subst hD);(try subst hU);decide +kernel)
 with_reducible refine fA fun kk hn hx=>?_
 cbv
 repeat' first | (with_reducible intro hb;cbv) | with_reducible refine And.intro ?_ ?_
 all_goals first | (with_reducible refine hn _ ?_;clear hn hx kk) | exact kn.i1 | ((try subst hA);(try subst hS);(try subst hR);(try subst hX);(try subst hC);(try subst hV);(try subst hT);(try subst hM);(try subst hF);(try subst hH);(try subst hK);(try subst hJ);(try subst hE);(try subst hD);(try subst hU);decide +kernel)
 with_reducible refine fA fun kk hn hx=>?_
 cbv
 repeat' first | (with_reducible intro hb;cbv) | with_reducible refine And.intro ?_ ?_
 all_goals first | (with_reducible refine hn _ ?_;clear hn hx kk) | exact kn.i3 | ((try subst hA);(try subst hS);(try subst hR);(try subst hX);(try subst hC);(try subst hV);(try subst hT);(try subst hM);(try subst hF);(try subst hH);(try subst hK);(try subst hJ);(try subst hE);(try subst hD);(try subst hU);decide +kernel)
 have im: ∀ b c,c=true→A.imp b c=true:=fun b c h=>by rw[h,hA];cases b <;> rfl
 cbv
 repeat' first | (with_reducible intro hb;cbv) | with_reducible refine And.intro ?_ ?_
 all_goals first | exact im _ _ kn.i3 | exact im _ _ kn.i4 | exact kn.i3 | (refine im _ _ ?_;(try subst hA);(try subst hS);(try subst hR);(try subst hX);(try subst hC);(try subst hV);(try subst hT);(try subst hM);(try subst hF);(try subst hH);(try subst hK);(try subst hJ);(try subst hE);(try subst hD);(try subst hU);decide +kernel) | skip
 refine hk _ _ (bW.pure rfl rfl fun ρ=>dB ?_)
 have c1:=kn.c1
 have c2:=kn.c2
 have c3:=kn.c3
 have p1:=kn.p1
 have p2:=kn.p2
 simp only[sqV,sqS] at c1 c2 c3 p1 p2
 simp only[c1,c2,c3,p1,p2,kn.c4,kn.e,kn.i,kn.q]
 all_goals skip
end Go.Eng

