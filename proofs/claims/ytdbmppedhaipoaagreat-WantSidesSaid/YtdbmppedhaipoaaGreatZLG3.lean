
import Derived.Test.YtdbmppedhaipoaaGreatZLG0
import Derived.Test.YtdbmppedhaipoaaGreatSpecBA
set_option linter.all false
set_option exponentiation.threshold 3000
set_option maxRecDepth 100000
set_option maxHeartbeats 2000000
namespace Go.Eng
open Go.Proofs
def gWS (A:Alg):List CV→List Blk→Option LW
 | [.s (.int .u8 h), .s (.int .u8 d), .s (.int .u8 a)],[]=>some ⟨[A.cmp .leq 0 h,A.cmp .lss h 256,A.cmp .leq 0 d,A.cmp .lss d 256,A.cmp .leq 0 a,A.cmp .lss a 256], .c (.s (.bool true)),[],[]⟩
 | _,_=>none
def sW (A:Alg) (d:Int):Int:=A.bin .shl .i64 1 (A.wrap .u64 (A.bin .rem .u8 d 5))
def kHd (A:Alg) (h:Int):Int:=A.bin .shl .i64 1 (A.wrap .u64 (A.bin .rem .u8 h 7))
def xW (A:Alg) (d:Int):Int:=A.bin .mul .i64 (A.bin .quo .i64 8 (sW A d)) (sW A d)
def yW (A:Alg) (d a:Int):Int:=A.bin .mul .i64 (A.bin .quo .i64 (A.wrap .i64 (A.bin .rem .u8 a 8)) (sW A d)) (sW A d)
def ab0 (A:Alg) (W:SI) (h d a:Int):Bool:=A.ite (A.ite (A.beq (W.must (sqV A 0 0 8) sqS [] (kHd A h) 1 [] 32 32 (sW A d)) (A.cmp .gtr (sW A d) (kHd A h))) (A.beq (W.must (sqV A 0 0 8) sqS [] (kHd A h) 1 [] (xW A d) (yW A d a) (sW A d)) (A.cmp .gtr (sW A d) 1)) false) (A.cmp .eql (W.lim (kHd A h) 1 [] 32 32 (sW A d)) (kHd A h)) false
structure WsF (A:Alg) (U:SU) (W:SI) (h d a:Int):Prop where
 g1:A.cmp .geq (A.wrap .u64 (A.bin .rem .u8 d 5)) 0=true
 g2:A.cmp .geq (A.wrap .u64 (A.bin .rem .u8 h 7)) 0=true
 nz:A.cmp .neq (sW A d) 0=true
 i:U.inb (sqV A 0 0 8)=true
 im: ∀ b c,c=true→A.imp b c=true
 v:ab0 A W h d a=true
theorem abC {d m:Int} (h0:0≤d) (m0:0 < m) (m1:m≤8): ∃ e:Nat,(e:Int)=d % m∧(e:Int) < m∧aA.cmp .geq (aA.wrap .u64 (aA.bin .rem .u8 d m)) 0=true∧aA.bin .shl .i64 1 (aA.wrap .u64 (aA.bin .rem .u8 d m))=((2 ^ e:Nat):Int):=by
 have r0:=Int.emod_nonneg d (show m≠0 by omega)
 have r1:=Int.emod_lt_of_pos d m0
 have er:aA.bin .rem .u8 d m=d % m:=Int.tmod_eq_emod_of_nonneg h0
 have ew:aA.wrap .u64 (d % m)=d % m:=by show IntKind.u64.wrap _=_;rw[cX];omega
 refine⟨(d % m).toNat,Int.toNat_of_nonneg r0,by rw[Int.toNat_of_nonneg r0];exact r1,?_,?_⟩
 ·rw[er,ew];exact decide_eq_true r0
 ·rw[er,ew]
  show IntKind.i64.wrap (1*2 ^ min (d % m).toNat 64)=_
  have hh: ∀ e:Nat,e < 8→IntKind.i64.wrap (1*2 ^ min e 64)=((2 ^ e:Nat):Int):=by decide +kernel
  exact hh _ (by omega)
theorem acD (e:Nat) (he:e < 7):ZN ((2 ^ e:Nat):Int) 1 []=true∧1≤((2 ^ e:Nat):Int):=by
 have key: ∀ e:Nat,e < 7→ZN ((2 ^ e:Nat):Int) 1 []=true∧1≤((2 ^ e:Nat):Int):=by decide +kernel
 exact key e he
theorem aaO {k x y s:Int} (ho:ZN k 1 []=true) (hc:Vq x y s=true):Vz Wl VZ [] k 1 [] x y s=(decide (s > 1)&&(decide (s > k)||decide (0 < (UP.all x y s Wl VZ []).length))):=by
 have hl:Vu k 1 [] x y s=k:=by unfold Vu;rw[ho,hc];rfl
 unfold Vz
 rw[ho,hc,hl,decide_eq_true VA]
 rfl
theorem acG (A:Alg) (hA:A=aA) (U:SU) (hU:U=bN) (W:SI) (hW:W=UW) {h d a:Int} (h1:0≤h) (d1:0≤d) (a1:0≤a):WsF A U W h d a:=by
 subst hA hU hW
 obtain⟨e, -,he,g1,es⟩:=abC d1 (m:=5) (by decide) (by decide)
 obtain⟨q, -,hq,g2,ek⟩:=abC h1 (m:=7) (by decide) (by decide)
 have es:sW aA d=((2 ^ e:Nat):Int):=es
 have ek:kHd aA h=((2 ^ q:Nat):Int):=ek
 obtain⟨ho,hk1⟩:=acD q (by omega)
 have hs1:1≤((2 ^ e:Nat):Int):=by have:=Nat.pos_of_ne_zero (show 2 ^ e≠0 by simp);omega
 have hs2:((2 ^ e:Nat):Int)≤16:=by
  have key: ∀ e:Nat,e < 5→((2 ^ e:Nat):Int)≤16:=by decide
  exact key e (by omega)
 obtain⟨b,hb⟩: ∃ b:Nat,(b:Int)=a % 8:=⟨(a % 8).toNat,Int.toNat_of_nonneg (Int.emod_nonneg a (by decide))⟩
 have hb8:b < 8:=by have:=Int.emod_lt_of_pos a (show(0:Int) < 8 by decide);omega
 have ea:aA.wrap .i64 (aA.bin .rem .u8 a 8)=(b:Int):=by
  show IntKind.i64.wrap (a.tmod 8)=_
  rw[Int.tmod_eq_emod_of_nonneg a1, ← hb,IntKind.wrap_i64];omega
 obtain⟨f1,f2⟩:=abH e (by omega)
 obtain⟨n1,n2⟩:=abB e b (by omega) hb8
 have ex:xW aA d=(8 / 2 ^ e*2 ^ e:Int):=by
  have key: ∀ e:Nat,e < 5→aA.bin .mul .i64 (aA.bin .quo .i64 8 ((2 ^ e:Nat):Int)) ((2 ^ e:Nat):Int)=(8 / 2 ^ e*2 ^ e:Int):=by decide +kernel
  unfold xW
  rw[es];exact key e (by omega)
 have ey:yW aA d a=((b:Int) / 2 ^ e*2 ^ e:Int):=by
  have key: ∀ e:Nat,e < 5→ ∀ b:Nat,b < 8→aA.bin .mul .i64 (aA.bin .quo .i64 (b:Int) ((2 ^ e:Nat):Int)) ((2 ^ e:Nat):Int)=((b:Int) / 2 ^ e*2 ^ e:Int):=by decide +kernel
  unfold yW
  rw[es,ea];exact key e (by omega) b hb8
 have e2:(2 ^ e:Int)=((2 ^ e:Nat):Int):=by simp
 refine⟨g1,g2,?_,by decide +kernel,fun b c h=>by rw[h];cases b <;> rfl,?_⟩
 ·rw[es]
  show(((2 ^ e:Nat):Int) != 0)=true
  rw[bne_iff_ne];omega
 ·have ia: ∀ u v:Bool,aA.ite u v false=(u&&v):=fun u v=>by cases u <;> rfl
  have vs:sqV aA 0 0 8=Wl:=by decide +kernel
  unfold ab0
  rw[ia,ia,vs,ex,ey,es,ek]
  rw[e2] at f1 f2 n1 n2 ⊢
  have hl:Vu ((2 ^ q:Nat):Int) 1 [] 32 32 ((2 ^ e:Nat):Int)=((2 ^ q:Nat):Int):=by unfold Vu;rw[ho,f1];rfl
  show(((Vz Wl VZ [] ((2 ^ q:Nat):Int) 1 [] 32 32 ((2 ^ e:Nat):Int) == decide (((2 ^ e:Nat):Int) > ((2 ^ q:Nat):Int)))&&(Vz Wl VZ [] ((2 ^ q:Nat):Int) 1 [] _ _ ((2 ^ e:Nat):Int) == decide (((2 ^ e:Nat):Int) > 1)))&&(Vu ((2 ^ q:Nat):Int) 1 [] 32 32 ((2 ^ e:Nat):Int) == ((2 ^ q:Nat):Int)))=true
  rw[hl,aaO ho f1,aaO ho n1,f2,decide_eq_true n2,beq_self_eq_true,Bool.and_true,Bool.or_true,Bool.and_true,beq_self_eq_true,Bool.and_true,decide_eq_false (show ¬ 0 < 0 by decide),Bool.or_false,beq_iff_eq]
  by_cases c:((2 ^ e:Nat):Int) > ((2 ^ q:Nat):Int)
  ·rw[decide_eq_true c,decide_eq_true (show((2 ^ e:Nat):Int) > 1 by omega)];rfl
  ·rw[decide_eq_false c,Bool.and_false]
def uK3 (A:Alg) (U:SU) (W:SI):List (Nat×bU):=(23,aR [] A (x6)) :: (29,aR [.a .v, .a .v, .a .v] A (x8 A)) :: (25,aR [.g [.s .i3, .s .i3, .s .pt], .g [.v, .v, .s .i3], .a .v] A (VI U W)) :: (27,aR [.g [.v, .v, .s .i3], .a .v] A (WT W)) :: ([])
theorem abV:COK Tryz.prog (aN (uK3 aA bN UW)):=aB VY (aB Xi (aB V3 (aB Xh (bC))))
theorem ZS:aJ Tryz.prog 9 (aR [.a .v, .a .v, .a .v] aA (gWS aA)):=by
 refine aW (un:=⟨false,some [0,1,2,6,7,8,9,10,11,12,14]⟩) tok abV aL (fn:=Tryz.f9) ?_
 intro w Wr args bs r hg ho hWr A L k hA hL hk
 obtain⟨U,hU⟩:=exE bN
 obtain⟨W,hW⟩:=exE UW
 try rw[← hU]
 try rw[← hW]
 try rw[← hA]
 unfold gWS at hg
 split at hg <;> cases hg
 rename_i h d a
 have a1:=(aG ho).1;replace ho:=(aG ho).2
 have a2:=(aG ho).1;replace ho:=(aG ho).2
 have a3:=(aG ho).1;replace ho:=(aG ho).2
 have a4:=(aG ho).1;replace ho:=(aG ho).2
 have a5:=(aG ho).1;replace ho:=(aG ho).2
 have a6:=(aG ho).1;replace ho:=(aG ho).2
 clear ho
 simp only[aA,aP,decide_eq_true_eq] at a1 a2 a3 a4 a5 a6
 have f:=acG A hA U hU W hW (h:=h) (d:=d) (a:=a) a1 a3 a5
 clear a1 a2 a3 a4 a5 a6
 cbv
 repeat' with_reducible first | (intro hb;cbv) | refine UM ?_ ?_
 all_goals first | exact f.g1 | exact f.g2 | exact f.nz | exact f.i | exact f.im _ _ f.i | skip
 ·exfalso;subst hA;cases hb
 ·exact hk _ _ (bW.pure rfl rfl fun ρ=>dB f.v)
end Go.Eng
