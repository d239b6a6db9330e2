
import Derived.Test.YtekohdfjkmdlpaaLV3
import Derived.Test.YtekohdfjkmdlpaaSpecU9
set_option linter.all false
set_option exponentiation.threshold 3000
namespace Go.Eng
open Go.Proofs
set_option maxRecDepth 100000
set_option linter.all false
set_option exponentiation.threshold 3000
set_option maxHeartbeats 2000000
def Vg (A:Alg):List CV→List Blk→Option LR
 | [.s (.int .u8 x), .s (.int .u8 y), .s (.int .u8 n), .s (.int .u8 u), .s (.int .u8 v), .s (.int .u8 m)],[]=>some ⟨[A.cmp .leq 0 x,A.cmp .lss x 256,A.cmp .leq 0 y,A.cmp .lss y 256,A.cmp .leq 0 n,A.cmp .lss n 256,A.cmp .leq 0 u,A.cmp .lss u 256,A.cmp .leq 0 v,A.cmp .lss v 256,A.cmp .leq 0 m,A.cmp .lss m 256], .c (.s (.bool true)),[]⟩
 | _,_=>none
def vv8 (A:Alg) (V W:List (Int×Int×Int)):List (Int×Int×Int):=A.app (A.app (A.app (A.app V [g3 A W 0]) [g3 A W 1]) [g3 A W 2]) [g3 A W 3]
def up4 (A:Alg) (S:List (Int×Int×Int)) (k:Int):Int×Int×Int:=(A.bin .add .i64 (A.get S k (0,0,0)).1 4,A.bin .add .i64 (A.get S k (0,0,0)).2.1 4,0)
def ss8 (A:Alg) (S:List (Int×Int×Int)):List (Int×Int×Int):=A.app (A.app (A.app (A.app S [up4 A S 0]) [up4 A S 1]) [up4 A S 2]) [up4 A S 3]
def U4 (A:Alg) (a b c p q r:Int):Bool:=A.ite (A.ite (A.ite (A.cmp .gtr p (A.bin .add .i64 a c)) true (A.cmp .lss (A.bin .add .i64 p r) a)) true (A.cmp .gtr q (A.bin .add .i64 b c))) true (A.cmp .lss (A.bin .add .i64 q r) b)
def inA (A:Alg) (a b c p q r:Int):Bool:=A.ite (A.ite (A.ite (A.cmp .gtr p a) (A.cmp .gtr q b) false) (A.cmp .lss (A.bin .add .i64 p r) (A.bin .add .i64 a c)) false) (A.cmp .lss (A.bin .add .i64 q r) (A.bin .add .i64 b c)) false
structure SqF (A:Alg) (U:SU) (a b c p q r:Int) (V S:List (Int×Int×Int)):Prop where
 i:U.inb V=true
 c:A.ite (A.beq (A.cmp .eql (U.check V S []) 0) (A.ite (U4 A a b c p q r) true (A.ite (inA A a b c p q r) true (inA A p q r a b c)))) (A.ite (A.ite (A.cmp .eql (U.check V S []) 0) true (A.cmp .eql (U.check V S []) 16)) true (A.cmp .eql (U.check V S []) 14)) false=true
theorem Vh (A:Alg) (hA:A=aA) (U:SU) (hU:U=bN) {a b c p q r:Int} (h:Two a b c p q r):SqF A U a b c p q r (vv8 A (sqV A a b c) (sqV A p q r)) (ss8 A sqS):=by
 subst hA hU
 rw[Uy h.s,Uy h.t]
 have e1:vv8 aA (bx a b c) (bx p q r)=b8 a b c p q r:=rfl
 have e2:ss8 aA sqS=t8:=by decide +kernel
 rw[e1,e2]
 have ck:=U9 h
 obtain⟨⟨h1,h2,h3,h4,h5,h6⟩,⟨g1,g2,g3,g4,g5,g6⟩⟩:=h
 have w: ∀ u v:Int,0≤u∧u≤29→1≤v∧v≤30→aA.bin .add .i64 u v=u+v:=fun u v hu hv=>by show IntKind.i64.wrap _=_;rw[IntKind.wrap_i64];omega
 constructor
 ·refine A4 fun v hv=>?_
  unfold b8 at hv
  simp only[List.mem_cons,List.not_mem_nil,or_false] at hv
  rcases hv with rfl | rfl | rfl | rfl | rfl | rfl | rfl | rfl <;> simp only <;> omega
 ·have ha:U4 aA a b c p q r=decide (p > a+c∨p+r < a∨q > b+c∨q+r < b):=by
   unfold U4
   rw[w a c ⟨h1,h2⟩ ⟨h5,h6⟩,w p r ⟨g1,g2⟩ ⟨g5,g6⟩,w b c ⟨h3,h4⟩ ⟨h5,h6⟩,w q r ⟨g3,g4⟩ ⟨g5,g6⟩]
   show(if(if(if decide (p > a+c)=true then true else decide (p+r < a))=true then true else decide (q > b+c))=true then true else decide (q+r < b))=_
   by_cases k1:p > a+c <;> by_cases k2:p+r < a <;> by_cases k3:q > b+c <;> by_cases k4:q+r < b <;> simp[k1,k2,k3,k4]
  have hi:inA aA a b c p q r=decide (p > a∧q > b∧p+r < a+c∧q+r < b+c):=by
   unfold inA
   rw[w a c ⟨h1,h2⟩ ⟨h5,h6⟩,w p r ⟨g1,g2⟩ ⟨g5,g6⟩,w b c ⟨h3,h4⟩ ⟨h5,h6⟩,w q r ⟨g3,g4⟩ ⟨g5,g6⟩]
   show(if(if(if decide (p > a)=true then decide (q > b) else false)=true then decide (p+r < a+c) else false)=true then decide (q+r < b+c) else false)=_
   by_cases k1:p > a <;> by_cases k2:q > b <;> by_cases k3:p+r < a+c <;> by_cases k4:q+r < b+c <;> simp[k1,k2,k3,k4]
  have hj:inA aA p q r a b c=decide (a > p∧b > q∧a+c < p+r∧b+c < q+r):=by
   unfold inA
   rw[w a c ⟨h1,h2⟩ ⟨h5,h6⟩,w p r ⟨g1,g2⟩ ⟨g5,g6⟩,w b c ⟨h3,h4⟩ ⟨h5,h6⟩,w q r ⟨g3,g4⟩ ⟨g5,g6⟩]
   show(if(if(if decide (a > p)=true then decide (b > q) else false)=true then decide (a+c < p+r) else false)=true then decide (b+c < q+r) else false)=_
   by_cases k1:a > p <;> by_cases k2:b > q <;> by_cases k3:a+c < p+r <;> by_cases k4:b+c < q+r <;> simp[k1,k2,k3,k4]
  rw[ha,hi,hj]
  have it: ∀ x y:Bool,aA.ite x true y=(x||y):=fun x y=>by cases x <;> rfl
  have hs:(decide (p > a+c∨p+r < a∨q > b+c∨q+r < b)||(decide (p > a∧q > b∧p+r < a+c∧q+r < b+c)||decide (a > p∧b > q∧a+c < p+r∧b+c < q+r)))=true↔UN a b c p q r:=by
   unfold UN
   rw[Bool.or_eq_true,Bool.or_eq_true,decide_eq_true_eq,decide_eq_true_eq,decide_eq_true_eq]
  rw[it,it]
  have hu:bN.check (b8 a b c p q r) t8 []=Cm (b8 a b c p q r) t8 []:=rfl
  rw[hu]
  by_cases hf:UN a b c p q r
  ·rw[hs.2 hf,ck.1 hf];rfl
  ·have:(decide (p > a+c∨p+r < a∨q > b+c∨q+r < b)||(decide (p > a∧q > b∧p+r < a+c∧q+r < b+c)||decide (a > p∧b > q∧a+c < p+r∧b+c < q+r)))=false:=by
    rw[← Bool.not_eq_true,hs];exact hf
   rw[this]
   rcases ck.2 hf with e | e <;> rw[e] <;> rfl
theorem UO:aJ Try.prog 3 (aC [.v, .v, .v, .v, .v, .v] aA (Vg aA)):=by
 refine aH (un:=⟨true,some [0,1,2,3,4,5,12,13,14,15,16,17,18,19,20,21,22,23,24,26,56]⟩) tok UB aL (fn:=Try.f3) (by kernel_rfl) (by kernel_rfl) (by kernel_rfl) (by decide +kernel) ?_
 intro w Wr args bs r hg ho hWr A L k hA hL hk
 obtain⟨H,hH⟩: ∃ H,H=bD:=⟨_,rfl⟩
 obtain⟨U,hU⟩: ∃ U,U=bN:=⟨_,rfl⟩
 (try rw[← hH])
 (try rw[← hU])
 (try rw[← hA])
 unfold Vg at hg
 split at hg
 rotate_left
 ·cases hg
 simp only[Option.some.injEq] at hg
 subst hg
 rename_i x y n u v m
 have x0:=(aG ho).1;replace ho:=(aG ho).2
 have x1:=(aG ho).1;replace ho:=(aG ho).2
 have y0:=(aG ho).1;replace ho:=(aG ho).2
 have y1:=(aG ho).1;replace ho:=(aG ho).2
 have n0:=(aG ho).1;replace ho:=(aG ho).2
 have n1:=(aG ho).1;replace ho:=(aG ho).2
 have u0:=(aG ho).1;replace ho:=(aG ho).2
 have u1:=(aG ho).1;replace ho:=(aG ho).2
 have v0:=(aG ho).1;replace ho:=(aG ho).2
 have v1:=(aG ho).1;replace ho:=(aG ho).2
 have m0:=(aG ho).1;replace ho:=(aG ho).2
 have m1:=(aG ho).1;replace ho:=(aG ho).2
 clear ho
 simp only[aA,aP,decide_eq_true_eq] at x0 x1 y0 y1 n0 n1 u0 u1 v0 v1 m0 m1
 have f:=Vh A hA U hU ⟨TR A hA x0 x1 y0 y1 n0 n1,TR A hA u0 u1 v0 v1 m0 m1⟩
 cbv
 repeat' first | (with_reducible intro hb;cbv) | with_reducible refine And.intro ?_ ?_
 ·exfalso;subst hA;cases hb
 intro hb
 clear hb
 with_reducible refine U7 ?_
 show run _ _ (Code.seq _ _) _ _
 with_reducible refine fA fun kk hn hx=>?_
 cbv
 repeat' first | (with_reducible intro hb;cbv) | with_reducible refine And.intro ?_ ?_
 all_goals first | (with_reducible refine hn _ ?_;clear hn hx kk) | ((try subst hA);(try subst hS);(try subst hR);(try subst hX);(try subst hC);(try subst hV);(try subst hT);(try subst hM);(try subst hF);(try subst hH);(try subst hK);(try subst hJ);(try subst hE);(try subst hD);(try subst hU);decide +kernel)
 with_reducible refine fA fun kk hn hx=>?_
 cbv
 repeat' first | (with_reducible intro hb;cbv) | with_reducible refine And.intro ?_ ?_
 all_goals first | (with_reducible refine hn _ ?_;clear hn hx kk) | ((try subst hA);(try subst hS);(try subst hR);(try subst hX);(try subst hC);(try subst hV);(try subst hT);(try subst hM);(try subst hF);(try subst hH);(try subst hK);(try subst hJ);(try subst hE);(try subst hD);(try subst hU);decide +kernel)
 with_reducible refine fA fun kk hn hx=>?_
 cbv
 repeat' first | (with_reducible intro hb;cbv) | with_reducible refine And.intro ?_ ?_
 all_goals first | (with_reducible refine hn _ ?_;clear hn hx kk) | ((try subst hA);(try subst hS);(try subst hR);(try subst hX);(try subst hC);(try subst hV);(try subst hT);(try subst hM);(try subst hF);(try subst hH);(try subst hK);(try subst hJ);(try subst hE);(try subst hD);(try subst hU);decide +kernel)
 with_reducible refine fA fun kk hn hx=>?_
 cbv
 repeat' first | ((with_reducible intro hb);cbv) | with_reducible refine And.intro ?_ ?_
 all_goals first | (with_reducible refine hn _ ?_;clear hn hx kk) | (subst hA;kernel_rfl) | skip
 with_reducible refine fA fun kk hn hx=>?_
 cbv
 repeat' first | (with_reducible intro hb;cbv) | with_reducible refine And.intro ?_ ?_
 all_goals first | (with_reducible refine hn _ ?_;clear hn hx kk) | ((try subst hA);(try subst hS);(try subst hR);(try subst hX);(try subst hC);(try subst hV);(try subst hT);(try subst hM);(try subst hF);(try subst hH);(try subst hK);(try subst hJ);(try subst hE);(try subst hD);(try subst hU);decide +kernel)
 with_reducible refine fA fun kk hn hx=>?_
 cbv
 repeat' first | (with_reducible intro hb;cbv) | with_reducible refine And.intro ?_ ?_
 all_goals first | (with_reducible refine hn _ ?_;clear hn hx kk) | ((try subst hA);(try subst hS);(try subst hR);(try subst hX);(try subst hC);(try subst hV);(try subst hT);(try subst hM);(try subst hF);(try subst hH);(try subst hK);(try subst hJ);(try subst hE);(try subst hD);(try subst hU);decide +kernel)
 cbv
 repeat' first | (with_reducible intro hb;cbv) | with_reducible refine And.intro ?_ ?_
 ·exact f.i
 exact hk _ _ (bE.pure rfl fun ρ=>yQ f.c)
end Go.Eng

