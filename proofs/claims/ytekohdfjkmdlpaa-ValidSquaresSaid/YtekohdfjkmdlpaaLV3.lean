
import Derived.Test.YtekohdfjkmdlpaaLV0
import Derived.Test.YtekohdfjkmdlpaaSpecU8
set_option linter.all false
set_option exponentiation.threshold 3000
namespace Go.Eng
open Go.Proofs
set_option maxRecDepth 100000
set_option linter.all false
set_option exponentiation.threshold 3000
set_option maxHeartbeats 2000000
def UC (A:Alg):List CV→List Blk→Option LR
 | [.s (.int .u8 x), .s (.int .u8 y), .s (.int .u8 n), .s (.int .u8 w)],[]=>some ⟨[A.cmp .leq 0 x,A.cmp .lss x 256,A.cmp .leq 0 y,A.cmp .lss y 256,A.cmp .leq 0 n,A.cmp .lss n 256,A.cmp .leq 0 w,A.cmp .lss w 256], .c (.s (.bool true)),[]⟩
 | _,_=>none
def g3 (A:Alg) (V:List (Int×Int×Int)) (k:Int):Int×Int×Int:=((A.get V k (0,0,0)).1,(A.get V k (0,0,0)).2.1,(A.get V k (0,0,0)).2.2)
structure SpF (A:Alg) (U:SU) (V S:List (Int×Int×Int)):Prop where
 i0:U.inb V=true
 i1:U.inb (A.set V 1 (g3 A V 0))=true
 i5:U.inb (A.set (A.set V 1 (g3 A V 2)) 2 (g3 A V 1))=true
 i7:U.inb (A.set V 3 ((A.get V 3 (0,0,0)).1,65,(A.get V 3 (0,0,0)).2.2))=true
 c0:A.cmp .eql (U.check V S []) 0=true
 c1:A.cmp .eql (U.check (A.set V 1 (g3 A V 0)) S []) 14=true
 c2:A.cmp .eql (U.check V (A.sub S 0 3) []) 15=true
 c3:A.cmp .eql (U.check V (A.app S [g3 A S 0]) []) 15=true
 c4:A.cmp .eql (U.check V (A.set S 0 ((A.get S 0 (0,0,0)).1,2,(A.get S 0 (0,0,0)).2.2)) []) 15=true
 c5:A.cmp .eql (U.check (A.set (A.set V 1 (g3 A V 2)) 2 (g3 A V 1)) S []) 16=true
 c6:A.cmp .eql (U.check V (A.set S 2 ((A.get S 2 (0,0,0)).1,(A.get S 2 (0,0,0)).2.1, -1)) []) 10=true
 c7:A.cmp .eql (U.check (A.set V 3 ((A.get V 3 (0,0,0)).1,65,(A.get V 3 (0,0,0)).2.2)) S []) 13=true
theorem Uy {x y n:Int} (h:L4 x y n):sqV aA x y n=bx x y n:=by
 obtain⟨h1,h2,h3,h4,h5,h6⟩:=h
 have e1:aA.bin .add .i64 x n=x+n:=by show IntKind.i64.wrap _=_;rw[IntKind.wrap_i64];omega
 have e2:aA.bin .add .i64 y n=y+n:=by show IntKind.i64.wrap _=_;rw[IntKind.wrap_i64];omega
 unfold sqV
 rw[e1,e2];rfl
theorem A4 {V:List (Int×Int×Int)} (h: ∀ v,v∈V→(-1000≤v.1∧v.1≤1000)∧(-1000≤v.2.1∧v.2.1≤1000)∧(-1000≤v.2.2∧v.2.2≤1000)):bN.inb V=true:=by
 refine List.all_eq_true.2 fun v hv=>?_
 obtain⟨⟨a,b⟩,⟨c,d⟩,e,f⟩:=h v hv
 simp only[Bool.and_eq_true,decide_eq_true_eq]
 omega
theorem TH {a b:Int} (h:a=b):aA.cmp .eql a b=true:=by show(a == b)=true;rw[h];exact beq_self_eq_true b
theorem UL (A:Alg) (hA:A=aA) (U:SU) (hU:U=bN) {x y n:Int} (h:L4 x y n):SpF A U (sqV A x y n) sqS:=by
 subst hA hU
 rw[Uy h]
 have h':=h
 obtain⟨h1,h2,h3,h4,h5,h6⟩:=h'
 refine⟨?_,?_,?_,?_,TH (Uf h),TH (UE h),TH (UF h),TH (UG h),TH (UH h),TH (UI h),TH (UJ (x:=x) (y:=y) (n:=n)),TH (UK (x:=x) (y:=y) (n:=n))⟩
 ·refine A4 fun v hv=>?_
  unfold bx at hv
  simp only[List.mem_cons,List.not_mem_nil,or_false] at hv
  rcases hv with rfl | rfl | rfl | rfl <;> simp only <;> omega
 ·show bN.inb [(x,y,0),(x,y,0),(x+n,y+n,0),(x,y+n,0)]=true
  refine A4 fun v hv=>?_
  simp only[List.mem_cons,List.not_mem_nil,or_false] at hv
  rcases hv with rfl | rfl | rfl | rfl <;> simp only <;> omega
 ·show bN.inb [(x,y,0),(x+n,y+n,0),(x+n,y,0),(x,y+n,0)]=true
  refine A4 fun v hv=>?_
  simp only[List.mem_cons,List.not_mem_nil,or_false] at hv
  rcases hv with rfl | rfl | rfl | rfl <;> simp only <;> omega
 ·show bN.inb [(x,y,0),(x+n,y,0),(x+n,y+n,0),(x,65,0)]=true
  refine A4 fun v hv=>?_
  simp only[List.mem_cons,List.not_mem_nil,or_false] at hv
  rcases hv with rfl | rfl | rfl | rfl <;> simp only <;> omega
theorem w30 {x:Int} (h0:0≤x) (h1:x < 256):aA.wrap .i64 (aA.bin .rem .u8 x 30)=x % 30:=by
 have e:aA.bin .rem .u8 x 30=x % 30:=Int.tmod_eq_emod_of_nonneg h0
 rw[e]
 show IntKind.i64.wrap _=_
 rw[IntKind.wrap_i64];omega
theorem TR (A:Alg) (hA:A=aA) {x y n:Int} (x0:0≤x) (x1:x < 256) (y0:0≤y) (y1:y < 256) (n0:0≤n) (n1:n < 256):L4 (A.wrap .i64 (A.bin .rem .u8 x 30)) (A.wrap .i64 (A.bin .rem .u8 y 30)) (A.bin .add .i64 (A.wrap .i64 (A.bin .rem .u8 n 30)) 1):=by
 subst hA
 rw[w30 x0 x1,w30 y0 y1,w30 n0 n1]
 have e:aA.bin .add .i64 (n % 30) 1=n % 30+1:=by show IntKind.i64.wrap _=_;rw[IntKind.wrap_i64];omega
 rw[e]
 constructor <;> omega
def uF1 (A:Alg) (U:SU) (H:SH):List (Nat×bU):=(5,aR [] A (UW)) :: (6,aR [.a .v, .a .v, .a .v] A (x8 A)) :: (7,aR [.g [.s .i3, .s .i3, .s .pt]] A (uI U)) :: ([])
theorem UB:COK Try.prog (aN (uF1 aA bN bD)):=aB DI (aB Bw (aB wE (bC)))
theorem kR:aJ Try.prog 4 (aC [.v, .v, .v, .v] aA (UC aA)):=by
 refine aH (un:=⟨false,some [0,1,2,3,8,9,10,12,25,26,35,41,52,58,74,80]⟩) tok UB aL (fn:=Try.f4) (by kernel_rfl) (by kernel_rfl) (by kernel_rfl) (by decide +kernel) ?_
 intro w Wr args bs r hg ho hWr A L k hA hL hk
 obtain⟨H,hH⟩: ∃ H,H=bD:=⟨_,rfl⟩
 obtain⟨U,hU⟩: ∃ U,U=bN:=⟨_,rfl⟩
 (try rw[← hH])
 (try rw[← hU])
 (try rw[← hA])
 unfold UC at hg
 split at hg
 rotate_left
 ·cases hg
 simp only[Option.some.injEq] at hg
 subst hg
 rename_i x y n w
 have x0:=(aG ho).1;replace ho:=(aG ho).2
 have x1:=(aG ho).1;replace ho:=(aG ho).2
 have y0:=(aG ho).1;replace ho:=(aG ho).2
 have y1:=(aG ho).1;replace ho:=(aG ho).2
 have n0:=(aG ho).1;replace ho:=(aG ho).2
 have n1:=(aG ho).1;replace ho:=(aG ho).2
 have w0:=(aG ho).1;replace ho:=(aG ho).2
 have w1:=(aG ho).1;replace ho:=(aG ho).2
 clear ho
 simp only[aA,aP,decide_eq_true_eq] at x0 x1 y0 y1 n0 n1 w0 w1
 have f:=UL A hA U hU (TR A hA x0 x1 y0 y1 n0 n1)
 cbv
 repeat' first | (with_reducible intro hb;cbv) | with_reducible refine And.intro ?_ ?_
 ·exfalso;subst hA;cases hb
 all_goals first | exact f.i0 | exact f.i1 | exact f.i5 | exact f.i7 | (subst hA;rfl) | skip
 ·exact hk _ _ (bE.pure rfl fun ρ=>yQ f.c1)
 ·exact hk _ _ (bE.pure rfl fun ρ=>yQ f.c2)
 ·exact hk _ _ (bE.pure rfl fun ρ=>yQ f.c3)
 ·exact hk _ _ (bE.pure rfl fun ρ=>yQ f.c4)
 ·exact hk _ _ (bE.pure rfl fun ρ=>yQ f.c5)
 ·exact hk _ _ (bE.pure rfl fun ρ=>yQ f.c6)
 ·exact hk _ _ (bE.pure rfl fun ρ=>yQ f.c7)
 ·exact hk _ _ (bE.pure rfl fun ρ=>yQ f.c0)
end Go.Eng

