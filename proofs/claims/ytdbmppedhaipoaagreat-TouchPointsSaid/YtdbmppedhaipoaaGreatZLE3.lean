
import Derived.Test.YtdbmppedhaipoaaGreatZLE0
import Derived.Test.YtdbmppedhaipoaaGreatSpecB7
set_option linter.all false
set_option exponentiation.threshold 3000
set_option maxRecDepth 100000
set_option maxHeartbeats 2000000
namespace Go.Eng
open Go.Proofs
def XH (C:SC):List CV→List Blk→Option LR
 | [.g [.s (.int .i64 x), .s (.int .i64 y), .s (.int .i64 s)], .s (.int .i64 u), .s (.int .i64 v)],[]=>some ⟨[], .c (.s (.bool (C.has x y s u v))),[]⟩
 | _,_=>none
theorem YY (A:Alg) (hA:A=aA) (C:SC) (hC:C=UT) (x y s u v:Int):A.ite (A.ite (A.ite (A.ite (C.is x y s) (A.cmp .geq u x) false) (A.cmp .geq v y) false) (A.cmp .leq u (A.bin .add .i64 x s)) false) (A.cmp .leq v (A.bin .add .i64 y s)) false=C.has x y s u v:=by
 subst hA hC
 have ia: ∀ u v:Bool,aA.ite u v false=(u&&v):=fun u v=>by cases u <;> rfl
 rw[ia,ia,ia,ia]
 cases hc:UT.is x y s
 ·show((((false&&_)&&_)&&_)&&_)=((((cIs x y s&&_)&&_)&&_)&&_)
  rw[show cIs x y s=false from hc];rfl
 ·obtain⟨h1,h2,h3,h4,h5,h6⟩:=XA hc
  have e1:aA.bin .add .i64 x s=x+s:=by show IntKind.i64.wrap _=_;rw[IntKind.wrap_i64];omega
  have e2:aA.bin .add .i64 y s=y+s:=by show IntKind.i64.wrap _=_;rw[IntKind.wrap_i64];omega
  rw[e1,e2]
  show((((true&&decide (u ≥ x))&&decide (v ≥ y))&&decide (u≤x+s))&&decide (v≤y+s))=((((cIs x y s&&decide (x≤u))&&decide (u≤x+s))&&decide (y≤v))&&decide (v≤y+s))
  rw[show cIs x y s=true from hc,Bool.eq_iff_iff]
  simp only[Bool.and_eq_true,decide_eq_true_eq,ge_iff_le]
  constructor <;> (rintro⟨⟨⟨⟨_,h1⟩,h2⟩,h3⟩,h4⟩;exact⟨⟨⟨⟨by first | rfl | trivial | assumption,by omega⟩,by omega⟩,by omega⟩,by omega⟩)
def uI0 (A:Alg) (C:SC):List (Nat×bU):=(15,aC [.v] A (Wq C)) :: ([])
theorem Zh:COK Tryz.prog (aN (uI0 aA UT)):=aB Vk (bC)
theorem XN:aJ Tryz.prog 22 (aC [.v, .v, .v] aA (XH UT)):=by
 refine aH (un:=⟨false,some [1,2,3,6]⟩) tok Zh aL (fn:=Tryz.f22) ?_
 intro w Wr args bs r hg ho hWr A L k hA hL hk
 obtain⟨C,hC⟩:=exE UT
 try rw[← hC]
 try rw[← hA]
 unfold XH at hg
 split at hg <;> cases hg
 rename_i x y s u v
 have e:=YY A hA C hC x y s u v
 cbv
 repeat' with_reducible first | (intro hb;cbv) | refine UM ?_ ?_
 refine hk _ _ (bE.pure rfl fun ρ=>yQ ?_)
 rw[← hC]
 exact e
def gTO (A:Alg):List CV→List Blk→Option LR
 | [.s (.int .i8 ax), .s (.int .i8 ay), .s (.int .i8 dx), .s (.int .i8 dy), .s (.int .u8 n), .s (.int .u8 q), .g [.s (.int .i64 x), .s (.int .i64 y), .s (.int .i64 s)]],[]=>some ⟨[A.cmp .leq (-128) ax,A.cmp .lss ax 128,A.cmp .leq (-128) ay,A.cmp .lss ay 128,A.cmp .leq (-128) dx,A.cmp .lss dx 128,A.cmp .leq (-128) dy,A.cmp .lss dy 128,A.cmp .leq 0 n,A.cmp .lss n 256,A.cmp .leq 0 q,A.cmp .lss q 256], .c (.s (.bool true)),[]⟩
 | _,_=>none
def mA (A:Alg) (n:Int):Int:=A.bin .add .i64 (A.wrap .i64 (A.bin .rem .u8 n 20)) 1
def jA (A:Alg) (n q:Int):Int:=A.bin .rem .i64 (A.wrap .i64 q) (A.bin .add .i64 (mA A n) 1)
def stA (A:Alg) (p d m:Int):Int:=A.bin .add .i64 (A.wrap .i64 p) (A.bin .mul .i64 m (A.wrap .i64 d))
theorem UQ {z:Int} (h1: -9223372036854775808≤z) (h2:z < 9223372036854775808):IntKind.i64.wrap z=z:=by rw[IntKind.wrap_i64];omega
theorem XK {m d:Int} (m0:0≤m) (m1:m≤20) (d0: -128≤d) (d1:d < 128): -2560≤m*d∧m*d≤2560:=by
 have h1:=Int.mul_nonneg m0 (show 0≤d+128 by omega)
 have h2:=Int.mul_nonneg m0 (show 0≤128 - d by omega)
 rw[Int.mul_add] at h1
 rw[Int.mul_sub] at h2
 omega
theorem YI {p d m:Int} (p0: -128≤p) (p1:p < 128) (d0: -128≤d) (d1:d < 128) (m0:0≤m) (m1:m≤20):stA aA p d m=p+m*d:=by
 have b:=XK m0 m1 d0 d1
 show IntKind.i64.wrap (IntKind.i64.wrap p+IntKind.i64.wrap (m*IntKind.i64.wrap d))=_
 rw[UQ (z:=p) (by omega) (by omega),UQ (z:=d) (by omega) (by omega),UQ (z:=m*d) (by omega) (by omega),UQ (by omega) (by omega)]
structure MjI (n q m j:Int):Prop where
 m0:1≤m
 m1:m≤20
 j0:0≤j
 j1:j≤m
theorem mj {n q:Int} (n0:0≤n) (n1:n < 256) (q0:0≤q) (q1:q < 256):MjI n q (mA aA n) (jA aA n q):=by
 have e1:mA aA n=n % 20+1:=by
  show IntKind.i64.wrap (IntKind.i64.wrap (n.tmod 20)+1)=_
  rw[Int.tmod_eq_emod_of_nonneg n0,UQ (z:=n % 20) (by omega) (by omega),UQ (by omega) (by omega)]
 have e2:jA aA n q=q % (mA aA n+1):=by
  show(IntKind.i64.wrap q).tmod (IntKind.i64.wrap (mA aA n+1))=_
  rw[UQ (z:=q) (by omega) (by omega),UQ (by rw[e1];omega) (by rw[e1];omega),Int.tmod_eq_emod_of_nonneg q0]
 have h1:=Int.emod_nonneg q (show mA aA n+1≠0 by rw[e1];omega)
 have h2:=Int.emod_lt_of_pos q (show 0 < mA aA n+1 by rw[e1];omega)
 rw[← e2] at h1 h2
 exact⟨by rw[e1];omega,by rw[e1];omega,h1,by omega⟩
def Zs (A:Alg) (H:SH) (B:SB) (C:SC) (ax ay dx dy n q x y s:Int):Bool:=
 A.ite (A.not (C.has x y s (stA A ax dx (jA A n q)) (stA A ay dy (jA A n q)))) true (A.ite (B.seg x y s (H.at_ (A.wrap .i64 ax) (A.wrap .i64 ay)) (H.at_ (stA A ax dx (mA A n)) (stA A ay dy (mA A n)))) (B.seg x y s (H.at_ (stA A ax dx (mA A n)) (stA A ay dy (mA A n))) (H.at_ (A.wrap .i64 ax) (A.wrap .i64 ay))) false)
structure ToF (A:Alg) (H:SH) (B:SB) (C:SC) (ax ay dx dy n q x y s:Int):Prop where
 a1:A.cmp .leq (-9223372036854775808) (A.wrap .i64 ax)=true
 a2:A.cmp .lss (A.wrap .i64 ax) 9223372036854775808=true
 a3:A.cmp .leq (-9223372036854775808) (A.wrap .i64 ay)=true
 a4:A.cmp .lss (A.wrap .i64 ay) 9223372036854775808=true
 b1:A.cmp .leq (-9223372036854775808) (stA A ax dx (mA A n))=true
 b2:A.cmp .lss (stA A ax dx (mA A n)) 9223372036854775808=true
 b3:A.cmp .leq (-9223372036854775808) (stA A ay dy (mA A n))=true
 b4:A.cmp .lss (stA A ay dy (mA A n)) 9223372036854775808=true
 nz:A.cmp .neq (A.bin .add .i64 (mA A n) 1) 0=true
 v:A.not (C.is x y s)=false→Zs A H B C ax ay dx dy n q x y s=true
theorem Wp {z:Int} (h0: -4000≤z) (h1:z≤4000):Sm 60 z:=by
 show z.natAbs < 2 ^ 60
 have:(2:Nat) ^ 60=1152921504606846976:=rfl
 omega
theorem ZH (A:Alg) (hA:A=aA) (H:SH) (hH:H=bD) (B:SB) (hB:B=UP) (C:SC) (hC:C=UT) {ax ay dx dy n q x y s:Int} (a1: -128≤ax) (a2:ax < 128) (a3: -128≤ay) (a4:ay < 128) (a5: -128≤dx) (a6:dx < 128) (a7: -128≤dy) (a8:dy < 128) (n1:0≤n) (n2:n < 256) (q1:0≤q) (q2:q < 256):ToF A H B C ax ay dx dy n q x y s:=by
 subst hA hH hB hC
 have f:=mj n1 n2 q1 q2
 have h1:=f.m0
 have h2:=f.m1
 have h3:=f.j0
 have h4:=f.j1
 have wx:aA.wrap .i64 ax=ax:=UQ (by omega) (by omega)
 have wy:aA.wrap .i64 ay=ay:=UQ (by omega) (by omega)
 have ex:=YI a1 a2 a5 a6 (show 0≤mA aA n by omega) h2
 have ey:=YI a3 a4 a7 a8 (show 0≤mA aA n by omega) h2
 have fx:=YI a1 a2 a5 a6 h3 (show jA aA n q≤20 by omega)
 have fy:=YI a3 a4 a7 a8 h3 (show jA aA n q≤20 by omega)
 have bx:=XK (show 0≤mA aA n by omega) h2 a5 a6
 have by_:=XK (show 0≤mA aA n by omega) h2 a7 a8
 refine⟨bJ _ rfl _ _ (by rw[wx];omega),bH _ rfl _ _ (by rw[wx];omega),bJ _ rfl _ _ (by rw[wy];omega),bH _ rfl _ _ (by rw[wy];omega),bJ _ rfl _ _ (by rw[ex];omega),bH _ rfl _ _ (by rw[ex];omega),bJ _ rfl _ _ (by rw[ey];omega),bH _ rfl _ _ (by rw[ey];omega),?_,fun hc=>?_⟩
 ·show(IntKind.i64.wrap (mA aA n+1) != 0)=true
  rw[UQ (by omega) (by omega),bne_iff_ne];omega
 ·have hc:(!Vq x y s)=false:=hc
  rw[Bool.not_eq_false'] at hc
  have it: ∀ u v:Bool,aA.ite u true v=(u||v):=fun u v=>by cases u <;> rfl
  have ia: ∀ u v:Bool,aA.ite u v false=(u&&v):=fun u v=>by cases u <;> rfl
  unfold Zs
  rw[it,ia,wx,wy,ex,ey,fx,fy]
  cases hh:UT.has x y s (ax+jA aA n q*dx) (ay+jA aA n q*dy)
  ·rfl
  ·have hh:((((cIs x y s&&decide (x≤ax+jA aA n q*dx))&&decide (ax+jA aA n q*dx≤x+s))&&decide (y≤ay+jA aA n q*dy))&&decide (ay+jA aA n q*dy≤y+s))=true:=hh
   simp only[Bool.and_eq_true,decide_eq_true_eq] at hh
   obtain⟨⟨⟨⟨_,g1⟩,g2⟩,g3⟩,g4⟩:=hh
   have pa:AtP (bD.at_ ax ay) ax ay:=atP (Wp (by omega) (by omega)) (Wp (by omega) (by omega))
   have pb:AtP (bD.at_ (ax+mA aA n*dx) (ay+mA aA n*dy)) (ax+mA aA n*dx) (ay+mA aA n*dy):=atP (Wp (by omega) (by omega)) (Wp (by omega) (by omega))
   have key:=WM hc pa pb (by omega) h3 h4 g1 g2 g3 g4
   show(!true||(U3 x y s _ _&&U3 x y s _ _))=true
   rw[← WN x y s (bD.at_ ax ay),key];rfl
def uI1 (A:Alg) (H:SH) (B:SB) (C:SC):List (Nat×bU):=(10,aR [] A (Vs)) :: (15,aC [.v] A (Wq C)) :: (22,aC [.v, .v, .v] A (XH C)) :: (21,aC [.v, .v] A (FD A H)) :: (12,aC [.v, .v, .v] A (VW B)) :: ([])
theorem Zi:COK Tryz.prog (aN (uI1 aA bD UP UT)):=aB U2 (aB Vk (aB XN (aB HZ (aB Vt (bC)))))
theorem VE:aJ Tryz.prog 5 (aC [.v, .v, .v, .v, .v, .v, .v] aA (gTO aA)):=by
 refine aH (un:=⟨false,some [0,1,2,3,4,5,6,13,14,15,16,17,18,19,21,24]⟩) tok Zi aL (fn:=Tryz.f5) ?_
 intro w Wr args bs r hg ho hWr A L k hA hL hk
 obtain⟨B,hB⟩:=exE UP
 obtain⟨C,hC⟩:=exE UT
 obtain⟨H,hH⟩:=exE bD
 try rw[← hB]
 try rw[← hC]
 try rw[← hH]
 try rw[← hA]
 unfold gTO at hg
 split at hg <;> cases hg
 rename_i ax ay dx dy n q x y s
 have a1:=(aG ho).1;replace ho:=(aG ho).2
 have a2:=(aG ho).1;replace ho:=(aG ho).2
 have a3:=(aG ho).1;replace ho:=(aG ho).2
 have a4:=(aG ho).1;replace ho:=(aG ho).2
 have a5:=(aG ho).1;replace ho:=(aG ho).2
 have a6:=(aG ho).1;replace ho:=(aG ho).2
 have a7:=(aG ho).1;replace ho:=(aG ho).2
 have a8:=(aG ho).1;replace ho:=(aG ho).2
 have n1:=(aG ho).1;replace ho:=(aG ho).2
 have n2:=(aG ho).1;replace ho:=(aG ho).2
 have q1:=(aG ho).1;replace ho:=(aG ho).2
 have q2:=(aG ho).1;replace ho:=(aG ho).2
 clear ho
 simp only[aA,aP,decide_eq_true_eq] at a1 a2 a3 a4 a5 a6 a7 a8 n1 n2 q1 q2
 have f:=ZH A hA H hH B hB C hC (x:=x) (y:=y) (s:=s) a1 a2 a3 a4 a5 a6 a7 a8 n1 n2 q1 q2
 clear a1 a2 a3 a4 a5 a6 a7 a8 n1 n2 q1 q2
 cbv
 repeat' with_reducible first | (intro hb;cbv) | refine UM ?_ ?_
 ·exfalso;subst hA;cases hb
 ·exact hk _ _ (bE.pure rfl fun ρ=>BH rfl)
 ·exact f.a1
 ·exact f.a2
 ·exact f.a3
 ·exact f.a4
 ·exact f.b1
 ·exact f.b2
 ·exact f.b3
 ·exact f.b4
 ·exact f.nz
 ·exact hk _ _ (bE.pure rfl fun ρ=>yQ (f.v (by assumption)))
end Go.Eng
