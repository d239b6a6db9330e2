
import Derived.Test.YtdbmppedhaipoaaGreatZLE3
set_option linter.all false
set_option exponentiation.threshold 3000
set_option maxRecDepth 100000
set_option maxHeartbeats 2000000
namespace Go.Eng
open Go.Proofs
def gTW (A:Alg):List CV→List Blk→Option LR
 | [.g [.s (.int .i64 x), .s (.int .i64 y), .s (.int .i64 s)], .s (.int .i8 p), .s (.int .i8 q), .s (.int .i8 r), .s (.int .u8 w)],[]=>some ⟨[A.cmp .leq (-128) p,A.cmp .lss p 128,A.cmp .leq (-128) q,A.cmp .lss q 128,A.cmp .leq (-128) r,A.cmp .lss r 128,A.cmp .leq 0 w,A.cmp .lss w 256], .c (.s (.bool true)),[]⟩
 | _,_=>none
def loA (A:Alg) (p q:Int):Int:=A.mn (A.wrap .i64 p) (A.wrap .i64 q)
def hiA (A:Alg) (p q:Int):Int:=A.mx (A.wrap .i64 p) (A.wrap .i64 q)
def Xd (A:Alg) (x y s p q r:Int):Bool:=A.ite (A.ite (A.ite (A.cmp .geq (A.wrap .i64 r) y) (A.cmp .leq (A.wrap .i64 r) (A.bin .add .i64 y s)) false) (A.cmp .geq (hiA A p q) x) false) (A.cmp .leq (loA A p q) (A.bin .add .i64 x s)) false
structure TwF (A:Alg) (H:SH) (B:SB) (C:SC) (x y s p q r:Int):Prop where
 a1:A.cmp .leq (-9223372036854775808) (loA A p q)=true
 a2:A.cmp .lss (loA A p q) 9223372036854775808=true
 a3:A.cmp .leq (-9223372036854775808) (hiA A p q)=true
 a4:A.cmp .lss (hiA A p q) 9223372036854775808=true
 a5:A.cmp .leq (-9223372036854775808) (A.wrap .i64 r)=true
 a6:A.cmp .lss (A.wrap .i64 r) 9223372036854775808=true
 v1:A.not (C.is x y s)=false→A.beq (B.seg x y s (H.at_ (loA A p q) (A.wrap .i64 r)) (H.at_ (hiA A p q) (A.wrap .i64 r))) (Xd A x y s p q r)=true
 v2:A.not (C.is x y s)=false→A.beq (B.seg x y s (H.at_ (A.wrap .i64 r) (loA A p q)) (H.at_ (A.wrap .i64 r) (hiA A p q))) (Xd A y x s p q r)=true
theorem ZK (A:Alg) (hA:A=aA) (H:SH) (hH:H=bD) (B:SB) (hB:B=UP) (C:SC) (hC:C=UT) {x y s p q r:Int} (a1: -128≤p) (a2:p < 128) (a3: -128≤q) (a4:q < 128) (a5: -128≤r) (a6:r < 128):TwF A H B C x y s p q r:=by
 subst hA hH hB hC
 have wp:aA.wrap .i64 p=p:=UQ (by omega) (by omega)
 have wq:aA.wrap .i64 q=q:=UQ (by omega) (by omega)
 have wr:aA.wrap .i64 r=r:=UQ (by omega) (by omega)
 have el:loA aA p q=if q < p then q else p:=by unfold loA;rw[wp,wq];rfl
 have eh:hiA aA p q=if p < q then q else p:=by unfold hiA;rw[wp,wq];rfl
 have l1: -128≤loA aA p q∧loA aA p q < 128:=by rw[el];split <;> omega
 have h1: -128≤hiA aA p q∧hiA aA p q < 128:=by rw[eh];split <;> omega
 have lh:loA aA p q≤hiA aA p q:=by rw[el,eh];split <;> split <;> omega
 have ia: ∀ u v:Bool,aA.ite u v false=(u&&v):=fun u v=>by cases u <;> rfl
 have at1: ∀ u v:Int, -128≤u→u < 128→ -128≤v→v < 128→AtP (bD.at_ u v) u v:=fun u v g1 g2 g3 g4=>atP (Wp (by omega) (by omega)) (Wp (by omega) (by omega))
 have ad: ∀ u s:Int,0≤u→u≤64→0≤s→s≤64→aA.bin .add .i64 u s=u+s:=fun u s g1 g2 g3 g4=>UQ (by omega) (by omega)
 refine⟨bJ _ rfl _ _ (by omega),bH _ rfl _ _ (by omega),bJ _ rfl _ _ (by omega),bH _ rfl _ _ (by omega),bJ _ rfl _ _ (by rw[wr];omega),bH _ rfl _ _ (by rw[wr];omega),fun hc=>?_,fun hc=>?_⟩
 ·have hc:(!Vq x y s)=false:=hc
  rw[Bool.not_eq_false'] at hc
  obtain⟨s0,s1,x0,y0,x1,y1⟩:=Vb hc
  unfold Xd
  rw[wr,ia,ia,ia,ad y s (by omega) (by omega) (by omega) (by omega),ad x s (by omega) (by omega) (by omega) (by omega)]
  show(U3 x y s _ _ == _)=true
  rw[WL hc (at1 _ _ l1.1 l1.2 a5 a6) (at1 _ _ h1.1 h1.2 a5 a6) lh]
  exact beq_self_eq_true _
 ·have hc:(!Vq x y s)=false:=hc
  rw[Bool.not_eq_false'] at hc
  obtain⟨s0,s1,x0,y0,x1,y1⟩:=Vb hc
  unfold Xd
  rw[wr,ia,ia,ia,ad y s (by omega) (by omega) (by omega) (by omega),ad x s (by omega) (by omega) (by omega) (by omega)]
  show(U3 x y s _ _ == _)=true
  rw[Wb hc (at1 _ _ a5 a6 l1.1 l1.2) (at1 _ _ a5 a6 h1.1 h1.2) lh]
  exact beq_self_eq_true _
def uJ1 (A:Alg) (H:SH) (B:SB) (C:SC):List (Nat×bU):=(10,aR [] A (Vs)) :: (15,aC [.v] A (Wq C)) :: (21,aC [.v, .v] A (FD A H)) :: (12,aC [.v, .v, .v] A (VW B)) :: ([])
theorem Zj:COK Tryz.prog (aN (uJ1 aA bD UP UT)):=aB U2 (aB Vk (aB HZ (aB Vt (bC))))
theorem V1:aJ Tryz.prog 6 (aC [.v, .v, .v, .v, .v] aA (gTW aA)):=by
 refine aH (un:=⟨false,some [0,1,2,3,4,5,10,11,12,13,14,15,16,17,19,22,47]⟩) tok Zj aL (fn:=Tryz.f6) ?_
 intro w Wr args bs r hg ho hWr A L k hA hL hk
 obtain⟨B,hB⟩:=exE UP
 obtain⟨C,hC⟩:=exE UT
 obtain⟨H,hH⟩:=exE bD
 try rw[← hB]
 try rw[← hC]
 try rw[← hH]
 try rw[← hA]
 unfold gTW at hg
 split at hg <;> cases hg
 rename_i x y s p q r w
 have a1:=(aG ho).1;replace ho:=(aG ho).2
 have a2:=(aG ho).1;replace ho:=(aG ho).2
 have a3:=(aG ho).1;replace ho:=(aG ho).2
 have a4:=(aG ho).1;replace ho:=(aG ho).2
 have a5:=(aG ho).1;replace ho:=(aG ho).2
 have a6:=(aG ho).1;replace ho:=(aG ho).2
 have n1:=(aG ho).1;replace ho:=(aG ho).2
 have n2:=(aG ho).1;replace ho:=(aG ho).2
 clear ho
 simp only[aA,aP,decide_eq_true_eq] at a1 a2 a3 a4 a5 a6 n1 n2
 have f:=ZK A hA H hH B hB C hC (x:=x) (y:=y) (s:=s) a1 a2 a3 a4 a5 a6
 clear a1 a2 a3 a4 a5 a6 n1 n2
 cbv
 repeat' with_reducible first | (intro hb;cbv) | refine UM ?_ ?_
 all_goals first | exact f.a1 | exact f.a2 | exact f.a3 | exact f.a4 | exact f.a5 | exact f.a6 | skip
 ·exfalso;subst hA;cases hb
 ·exact hk _ _ (bE.pure rfl fun ρ=>BH rfl)
 ·exact hk _ _ (bE.pure rfl fun ρ=>yQ (f.v2 (by assumption)))
 ·exact hk _ _ (bE.pure rfl fun ρ=>yQ (f.v1 (by assumption)))
end Go.Eng
