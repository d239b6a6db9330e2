
import Derived.Test.YtbfknjpggfkgjaaGreatYCWA
import Derived.Test.YtbfknjpggfkgjaaGreatSpecNA
import Derived.Test.YtbfknjpggfkgjaaGreatEngMW
set_option linter.all false
set_option exponentiation.threshold 3000
set_option maxRecDepth 100000
namespace Go.Eng
open Go.Proofs
def CO (A:Alg) (V:SV):List CV→List Blk→Option LR
 | [.s (.int .u32 x), .s (.int .u32 y), .s (.int .u32 c)],[]=>some ⟨[A.cmp .leq 0 x,A.cmp .lss x 4294967296,A.cmp .leq 0 y,A.cmp .lss y 4294967296,A.cmp .leq 0 c,A.cmp .leq c 1], .t [.s (.int .u32 (V.adds x y c)), .s (.int .u32 (V.addc x y c))],[]⟩
 | _,_=>none
def C7 (A:Alg) (V:SV):List CV→List Blk→Option LR
 | [.s (.int .u32 x), .s (.int .u32 y), .s (.int .u32 c)],[]=>some ⟨[A.cmp .leq 0 x,A.cmp .lss x 4294967296,A.cmp .leq 0 y,A.cmp .lss y 4294967296,A.cmp .leq 0 c,A.cmp .leq c 1], .t [.s (.int .u32 (V.subs x y c)), .s (.int .u32 (V.subc x y c))],[]⟩
 | _,_=>none
def CS (A:Alg) (V:SV):List CV→List Blk→Option LR
 | [.s (.int .u32 x), .s (.int .u32 y), .s (.int .u32 c)],[]=>some ⟨[A.cmp .leq 0 x,A.cmp .leq 0 y,A.cmp .lss y 4294967296,A.cmp .lss x c,A.cmp .lss c 4294967296], .t [.s (.int .u32 (V.divq x y c)), .s (.int .u32 (V.divr x y c))],[]⟩
 | _,_=>none
def gLz (A:Alg) (V:SV):List CV→List Blk→Option LR
 | [.s (.int .u32 x)],[]=>some ⟨[A.cmp .leq 0 x,A.cmp .lss x 4294967296], .c (.s (.int .i64 (V.lz x))),[]⟩
 | _,_=>none
theorem QN (a:Int) (h0:0≤a):aD .shr .u64 a 32=a / 4294967296:=gK a h0
theorem Hc (a:Int) (h0:0≤a) (h1:a < 4294967296):aD .shl .u64 a 32=a*4294967296:=by
 show IntKind.u64.wrap (a*2 ^ min (32:Int).toNat 64)=_
 rw[show min (32:Int).toNat 64=32 from rfl,cX];omega
theorem zU (h l:Int) (h0:0≤h) (h1:h < 4294967296) (l0:0≤l) (l1:l < 4294967296):aD .or .u64 (h*4294967296) l=h*4294967296+l:=by
 rw[Is _ _ (by omega) (by omega) l0 (by omega)]
 have e1:(h*4294967296).toNat=2 ^ 32*h.toNat:=by omega
 rw[e1, ← Nat.two_pow_add_eq_or_of_lt (by omega)]
 omega
theorem EW (a b:Int) (h0:0≤a) (h1:a < 4294967296) (h2:0≤b) (h3:b < 4294967296):aD .and .u32 a b=((a.toNat&&& b.toNat:Nat):Int):=by
 have e1:=cE 32 a h0 (by omega)
 have e2:=cE 32 b h2 (by omega)
 have h4:a.toNat&&& b.toNat≤a.toNat:=Nat.and_le_left
 show IntKind.u32.wrap ((BitVec.ofInt 32 a&&& BitVec.ofInt 32 b).toNat:Int)=_
 rw[BitVec.toNat_and,e1,e2,IntKind.wrap_u32]
 omega
theorem Ir (a b:Int) (h0:0≤a) (h1:a < 4294967296) (h2:0≤b) (h3:b < 4294967296):aD .or .u32 a b=((a.toNat||| b.toNat:Nat):Int):=by
 have e1:=cE 32 a h0 (by omega)
 have e2:=cE 32 b h2 (by omega)
 have h4:a.toNat||| b.toNat < 2 ^ 32:=Nat.or_lt_two_pow (by omega) (by omega)
 show IntKind.u32.wrap ((BitVec.ofInt 32 a||| BitVec.ofInt 32 b).toNat:Int)=_
 rw[BitVec.toNat_or,e1,e2,IntKind.wrap_u32]
 omega
theorem anL (a b:Int) (h0:0≤a) (h1:a < 4294967296) (h2:0≤b) (h3:b < 4294967296):aD .xor .u32 a b=((a.toNat ^^^ b.toNat:Nat):Int):=by
 have e1:=cE 32 a h0 (by omega)
 have e2:=cE 32 b h2 (by omega)
 have h4:a.toNat ^^^ b.toNat < 2 ^ 32:=Nat.xor_lt_two_pow (by omega) (by omega)
 show IntKind.u32.wrap ((BitVec.ofInt 32 a ^^^ BitVec.ofInt 32 b).toNat:Int)=_
 rw[BitVec.toNat_xor,e1,e2,IntKind.wrap_u32]
 omega
theorem LP (a:Nat) (h:a < 2 ^ 32):a / 2 ^ 31=(a.testBit 31).toNat:=by
 have:a / 2 ^ 31 < 2:=by omega
 rw[Nat.testBit_eq_decide_div_mod_eq]
 rcases(show a / 2 ^ 31=0∨a / 2 ^ 31=1 by omega) with h | h <;> rw[h] <;> rfl
theorem yX (a:Nat) (h:a < 2 ^ 32):a.testBit 31=decide (2 ^ 31≤a):=by
 rw[Nat.testBit_eq_decide_div_mod_eq]
 rcases(show a / 2 ^ 31=0∨a / 2 ^ 31=1 by omega) with h1 | h1
 ·rw[h1];simp;omega
 ·rw[h1];simp;omega
theorem Fn (x y d:Int) (x0:0≤x) (x1:x < 4294967296) (y0:0≤y) (y1:y < 4294967296) (d0:0≤d) (d1:d < 4294967296) (c:Int) (c0:0≤c) (c1:c≤1) (hd:d=(x - y - c) % 4294967296) :
  aD .shr .u32 (aD .or .u32 (aD .and .u32 (aD .xor .u32 4294967295 x) y) (aD .and .u32 (aD .xor .u32 4294967295 (aD .xor .u32 x y)) d)) 31=if x - y - c < 0 then 1 else 0:=by
 have ex:aD .xor .u32 4294967295 x=(((4294967295:Int).toNat ^^^ x.toNat:Nat):Int):=anL _ _ (by omega) (by omega) x0 x1
 have bx:(4294967295:Int).toNat ^^^ x.toNat < 2 ^ 32:=Nat.xor_lt_two_pow (by decide) (by omega)
 have exy:=anL x y x0 x1 y0 y1
 have bxy:x.toNat ^^^ y.toNat < 2 ^ 32:=Nat.xor_lt_two_pow (by omega) (by omega)
 have e2:aD .xor .u32 4294967295 (((x.toNat ^^^ y.toNat:Nat):Int))=(((4294967295:Int).toNat ^^^ (x.toNat ^^^ y.toNat):Nat):Int):=by
  rw[anL _ _ (by omega) (by omega) (by omega) (by omega)];rfl
 have b2:(4294967295:Int).toNat ^^^ (x.toNat ^^^ y.toNat) < 2 ^ 32:=Nat.xor_lt_two_pow (by decide) bxy
 rw[ex,exy,e2,EW _ _ (by omega) (by omega) y0 y1,EW _ _ (by omega) (by omega) d0 d1,Int.toNat_natCast,Int.toNat_natCast]
 have b3:((4294967295:Int).toNat ^^^ x.toNat)&&& y.toNat < 2 ^ 32:=Nat.lt_of_le_of_lt Nat.and_le_left bx
 have b4:((4294967295:Int).toNat ^^^ (x.toNat ^^^ y.toNat))&&& d.toNat < 2 ^ 32:=Nat.lt_of_le_of_lt Nat.and_le_left b2
 rw[Ir _ _ (by omega) (by omega) (by omega) (by omega),Int.toNat_natCast,Int.toNat_natCast]
 have b5:(((4294967295:Int).toNat ^^^ x.toNat)&&& y.toNat)||| (((4294967295:Int).toNat ^^^ (x.toNat ^^^ y.toNat))&&& d.toNat) < 2 ^ 32:=Nat.or_lt_two_pow b3 b4
 have e5: ∀ n:Nat,n < 2 ^ 32→aD .shr .u32 (n:Int) 31=((n / 2 ^ 31:Nat):Int):=fun n hn=>by
  show((n:Int)).fdiv (2 ^ min (31:Int).toNat 32)=_
  rw[Int.fdiv_eq_ediv_of_nonneg _ (by decide)]
  rfl
 rw[e5 _ b5,LP _ b5]
 simp only[Nat.testBit_or,Nat.testBit_and,Nat.testBit_xor]
 have m31:(4294967295:Int).toNat.testBit 31=true:=by decide
 rw[m31,yX x.toNat (by omega),yX y.toNat (by omega),yX d.toNat (by omega)]
 by_cases hx:2 ^ 31≤x.toNat <;> by_cases hy:2 ^ 31≤y.toNat <;> by_cases hz:2 ^ 31≤d.toNat <;> simp[hx,hy,hz] <;> omega
theorem F6:aJ Tryz.prog 222 (aC [.v, .v, .v] aA (CO aA aS)):=by
 refine aH (un:=⟨false,none⟩) tok nF aL (fn:=Tryz.f222) ?_
 intro w Wr args bs r hg ho hWr A L k hA hL hk
 obtain⟨V,hV⟩:=exE aS
 try rw[← hV]
 try rw[← hA]
 unfold CO at hg
 split at hg <;> cases hg
 rename_i x y c
 have x0:=(aG ho).1;replace ho:=(aG ho).2
 have x1:=(aG ho).1;replace ho:=(aG ho).2
 have y0:=(aG ho).1;replace ho:=(aG ho).2
 have y1:=(aG ho).1;replace ho:=(aG ho).2
 have c0:=(aG ho).1;replace ho:=(aG ho).2
 have c1:=(aG ho).1;replace ho:=(aG ho).2
 clear ho
 simp only[aA,aP,decide_eq_true_eq] at x0 x1 y0 y1 c0 c1
 cbv
 refine hk _ _ (bE.pure rfl fun ρ=>?_)
 subst hV hA
 refine LQ ?_ ?_
 ·simp only[aA,aS,aD,cX,IntKind.wrap_u32]
  omega
 ·simp only[aA,aS]
  rw[QN _ (by simp only[aD,cX];omega)]
  simp only[aD,cX,IntKind.wrap_u32]
  omega
theorem Gx:aJ Tryz.prog 223 (aC [.v, .v, .v] aA (C7 aA aS)):=by
 refine aH (un:=⟨false,none⟩) tok nF aL (fn:=Tryz.f223) ?_
 intro w Wr args bs r hg ho hWr A L k hA hL hk
 obtain⟨V,hV⟩:=exE aS
 try rw[← hV]
 try rw[← hA]
 unfold C7 at hg
 split at hg <;> cases hg
 rename_i x y c
 have x0:=(aG ho).1;replace ho:=(aG ho).2
 have x1:=(aG ho).1;replace ho:=(aG ho).2
 have y0:=(aG ho).1;replace ho:=(aG ho).2
 have y1:=(aG ho).1;replace ho:=(aG ho).2
 have c0:=(aG ho).1;replace ho:=(aG ho).2
 have c1:=(aG ho).1;replace ho:=(aG ho).2
 clear ho
 simp only[aA,aP,decide_eq_true_eq] at x0 x1 y0 y1 c0 c1
 cbv
 refine hk _ _ (bE.pure rfl fun ρ=>?_)
 subst hV hA
 have hd:aD .sub .u32 (aD .sub .u32 x y) c=(x - y - c) % 4294967296:=by simp only[aD,IntKind.wrap_u32];omega
 refine LQ hd ?_
 show aD .shr .u32 (aD .or .u32 (aD .and .u32 (aD .xor .u32 4294967295 x) y) (aD .and .u32 (aD .xor .u32 4294967295 (aD .xor .u32 x y)) (aD .sub .u32 (aD .sub .u32 x y) c))) 31=_
 rw[hd]
 exact Fn x y _ x0 x1 y0 y1 (by omega) (by omega) c c0 c1 rfl
theorem F8:aJ Tryz.prog 216 (aC [.v, .v, .v] aA (CS aA aS)):=by
 refine aH (un:=⟨false,none⟩) tok nF aL (fn:=Tryz.f216) ?_
 intro w Wr args bs r hg ho hWr A L k hA hL hk
 obtain⟨V,hV⟩:=exE aS
 try rw[← hV]
 try rw[← hA]
 unfold CS at hg
 split at hg <;> cases hg
 rename_i x y c
 have x0:=(aG ho).1;replace ho:=(aG ho).2
 have y0:=(aG ho).1;replace ho:=(aG ho).2
 have y1:=(aG ho).1;replace ho:=(aG ho).2
 have c0:=(aG ho).1;replace ho:=(aG ho).2
 have c1:=(aG ho).1;replace ho:=(aG ho).2
 clear ho
 simp only[aA,aP,decide_eq_true_eq] at x0 y0 y1 c0 c1
 cbv
 have hj:aD .or .u64 (aD .shl .u64 (IntKind.u64.wrap x) 32) (IntKind.u64.wrap y)=x*4294967296+y:=by
  have e1:IntKind.u64.wrap x=x:=by rw[cX];omega
  have e2:IntKind.u64.wrap y=y:=by rw[cX];omega
  rw[e1,e2,Hc x x0 (by omega),zU x y x0 (by omega) y0 y1]
 have hc:IntKind.u64.wrap c=c:=by rw[cX];omega
 have hlt:x*4294967296+y < c*4294967296:=by omega
 have hq:(x*4294967296+y) / c < 4294967296:=Int.ediv_lt_of_lt_mul (by omega) (by omega)
 have hq0:0≤(x*4294967296+y) / c:=Int.ediv_nonneg (by omega) (by omega)
 have hr0:=Int.emod_nonneg (x*4294967296+y) (show c≠0 by omega)
 have hr1:=Int.emod_lt_of_pos (x*4294967296+y) (show 0 < c by omega)
 repeat' with_reducible first | (intro hb;cbv) | refine UM ?_ ?_
 ·subst hA;simp[aA,aP] at hb;omega
 ·subst hA;show(IntKind.u64.wrap c != 0)=true;rw[hc,bne_iff_ne];omega
 ·subst hA;show(IntKind.u64.wrap c != 0)=true;rw[hc,bne_iff_ne];omega
 refine hk _ _ (bE.pure rfl fun ρ=>?_)
 subst hV hA
 refine LQ ?_ ?_
 ·show IntKind.u32.wrap (IntKind.u64.wrap ((aD .or .u64 (aD .shl .u64 (IntKind.u64.wrap x) 32) (IntKind.u64.wrap y)).tdiv (IntKind.u64.wrap c)))=(x*4294967296+y) / c
  rw[hj,hc,Int.tdiv_eq_ediv_of_nonneg (by omega),IntKind.wrap_u32,cX]
  generalize (x*4294967296+y) / c=q at *
  omega
 ·show IntKind.u32.wrap ((aD .or .u64 (aD .shl .u64 (IntKind.u64.wrap x) 32) (IntKind.u64.wrap y)).tmod (IntKind.u64.wrap c))=(x*4294967296+y) % c
  rw[hj,hc,Int.tmod_eq_emod_of_nonneg (by omega),IntKind.wrap_u32]
  generalize (x*4294967296+y) % c=q at *
  omega
def tN0 (A:Alg) (S:SW) (V:SV):List (Nat×bU):=(222,aC [.v, .v, .v] A (CO A V)) :: (223,aC [.v, .v, .v] A (C7 A V)) :: (216,aC [.v, .v, .v] A (CS A V)) :: ((tC5 A S))
theorem Q9:COK Tryz.prog (aN (tN0 aA aV aS)):=aB F6 (aB Gx (aB F8 (Ow)))
theorem Kz:aJ Tryz.prog 217 (aC [.v] aA (gLz aA aS)):=by
 refine aH (un:=⟨false,none⟩) tok Ow aL (fn:=Tryz.f217) ?_
 intro w Wr args bs r hg ho hWr A L k hA hL hk
 obtain⟨S,hS⟩:=exE aV
 obtain⟨V,hV⟩:=exE aS
 try rw[← hS]
 try rw[← hV]
 try rw[← hA]
 unfold gLz at hg
 split at hg <;> cases hg
 rename_i x
 have x0:=(aG ho).1;replace ho:=(aG ho).2
 have x1:=(aG ho).1;replace ho:=(aG ho).2
 clear ho
 simp only[aA,aP,decide_eq_true_eq] at x0 x1
 have hl:=iE x.toNat 32 (by omega)
 cbv
 repeat' with_reducible first | (intro hb;cbv) | refine UM ?_ ?_
 ·subst hA;exact decide_eq_true x0
 ·subst hA;exact decide_eq_true x1
 refine hk _ _ (bE.pure rfl fun ρ=>?_)
 subst hV hS hA
 refine B2 ?_
 show IntKind.i64.wrap (32 - ((bP x.toNat:Nat):Int))=32 - ((bP x.toNat:Nat):Int)
 rw[IntKind.wrap_i64];omega
def tN1 (A:Alg) (S:SW) (V:SV):List (Nat×bU):=(217,aC [.v] A (gLz A V)) :: ((tN0 A S V))
theorem LF:COK Tryz.prog (aN (tN1 aA aV aS)):=aB Kz (Q9)
def JL (V:SV):List CV→List Blk→Option LR
 | [.s (.hp 0 0), .s (.hp 1 0)],[.fix false [.D d], .fix false [.D e]]=>some ⟨[], .t [.s (.hp 2 0), .s (.bool (V.plusOK d e))],[.fix true [.D (V.plus d e)]]⟩
 | _,_=>none
theorem KG:aJ Tryz.prog 209 (aC [.pd, .pd] aA (JL aS)):=by
 refine aH (un:=⟨false,none⟩) tok LF aL (fn:=Tryz.f209) ?_
 intro w Wr args bs r hg ho hWr A L k hA hL hk
 obtain⟨S,hS⟩:=exE aV
 obtain⟨V,hV⟩:=exE aS
 try rw[← hS]
 try rw[← hV]
 try rw[← hA]
 unfold JL at hg
 split at hg <;> cases hg
 rename_i d e
 cbv
 refine hL _ _ _ (aQ (un:=⟨false,none⟩) tok LF aL (fun p:Int×Dg×Int=>⟨[(9,⟨[], .c (.s (.int .i64 p.1))⟩),(7,⟨[], .c (.s (.int .u32 p.2.2))⟩),(6,⟨[], .c (.s (.hp 2 0))⟩),(0,⟨[], .c (.s (.hp 0 0))⟩),(1,⟨[], .c (.s (.hp 1 0))⟩)],[(2, .fix true [.D p.2.1]),(0, .fix false [.D d]),(1, .fix false [.D e])],3⟩)
  (fun p=>0≤p.1∧p.1≤32∧p.2.1.n=(d.n % 2 ^ (32*p.1.toNat)+e.n % 2 ^ (32*p.1.toNat)) % 2 ^ (32*p.1.toNat)∧p.2.2=((d.n % 2 ^ (32*p.1.toNat)+e.n % 2 ^ (32*p.1.toNat)) / 2 ^ (32*p.1.toNat):Nat)) (fun p=>(32 - p.1).toNat) (0,Dg.zero,0) ?_ ?_ (fun _ i hi=>by have:=hWr i hi;simp at this ⊢;omega) ?_)
 ·exact⟨by omega,by omega,by simp[Dg.zero,Nat.mod_one],by simp[Nat.mod_one]⟩
 ·exact⟨⟨⟨rfl,rfl,fun _=>rfl⟩,⟨rfl,rfl,fun _=>rfl⟩,⟨rfl,rfl,fun _=>rfl⟩,⟨rfl,rfl,fun _=>rfl⟩,⟨rfl,rfl,fun _=>rfl⟩,trivial⟩,⟨⟨rfl,rfl,fun _=>rfl⟩,⟨rfl,rfl,fun _=>rfl⟩,⟨rfl,rfl,fun _=>rfl⟩,trivial⟩,rfl,rfl⟩
 rintro⟨i,out,c⟩ ⟨i0,i1,h1,h2⟩ A2 L2 k2 hA2 hL2 hnext hexit hret
 simp only at i0 i1 h1 h2
 have hc1:c≤1:=by rw[h2];exact_mod_cast zF _ _ _ (Nat.two_pow_pos _)
 have hc0:0≤c:=by rw[h2];exact Int.natCast_nonneg _
 have hd1:=fQ d i.toNat
 have he1:=fQ e i.toNat
 have hstep:i < 32→c=((c.toNat:Nat):Int)∧(out.set i.toNat ((d.dig i.toNat+e.dig i.toNat+c.toNat) % 4294967296)).n=(d.n % 2 ^ (32*(i.toNat+1))+e.n % 2 ^ (32*(i.toNat+1))) % 2 ^ (32*(i.toNat+1))∧(d.dig i.toNat+e.dig i.toNat+c.toNat) / 4294967296=(d.n % 2 ^ (32*(i.toNat+1))+e.n % 2 ^ (32*(i.toNat+1))) / 2 ^ (32*(i.toNat+1)):=fun h=>⟨by omega,D5 d e out i.toNat c.toNat (by omega) h1 (by rw[h2];exact Int.toNat_natCast _)⟩
 have hs1:(i+1).toNat=i.toNat+1:=by omega
 rw[← hA2, ← hS, ← hV]
 cbv
 repeat' with_reducible first | (intro hb;cbv) | refine UM ?_ ?_
 all_goals try (clear hnext hexit hret hk hL hL2 h1 h2 hstep;subst hA2 hV;simp only[aA,aP,aS,decide_eq_true_eq,bM] at *;omega)
 ·have hb:i < 32:=by subst hA2;simpa [aA,aP] using hb
  obtain⟨g1,g2,g3⟩:=hstep hb
  have eD:A2.dig d i=((d.dig i.toNat:Nat):Int):=by subst hA2;rfl
  have eE:A2.dig e i=((e.dig i.toNat:Nat):Int):=by subst hA2;rfl
  have es:V.adds (A2.dig d i) (A2.dig e i) c=(((d.dig i.toNat+e.dig i.toNat+c.toNat) % 4294967296:Nat):Int):=by rw[eD,eE];subst hV;show((d.dig i.toNat:Nat)+(e.dig i.toNat:Nat)+c) % 4294967296=_;omega
  have ec:V.addc (A2.dig d i) (A2.dig e i) c=(((d.dig i.toNat+e.dig i.toNat+c.toNat) / 4294967296:Nat):Int):=by rw[eD,eE];subst hV;show((d.dig i.toNat:Nat)+(e.dig i.toNat:Nat)+c) / 4294967296=_;omega
  refine hnext _ (i+1,A2.setD out i (V.adds (A2.dig d i) (A2.dig e i) c),V.addc (A2.dig d i) (A2.dig e i) c) ⟨by show 0≤i+1;omega,by show i+1≤32;omega,?_,?_⟩ ?_ ⟨⟨⟨rfl,rfl,leI ?_⟩,⟨rfl,rfl,fun _=>rfl⟩,⟨rfl,rfl,fun _=>rfl⟩,⟨rfl,rfl,fun _=>rfl⟩,⟨rfl,rfl,fun _=>rfl⟩,trivial⟩,⟨⟨rfl,rfl,fun _=>rfl⟩,⟨rfl,rfl,fun _=>rfl⟩,⟨rfl,rfl,fun _=>rfl⟩,trivial⟩,rfl,rfl⟩
  ·show(A2.setD out i (V.adds (A2.dig d i) (A2.dig e i) c)).n=_
   rw[es,hs1, ← g2]
   subst hA2
   show(out.set i.toNat (((((d.dig i.toNat+e.dig i.toNat+c.toNat) % 4294967296:Nat):Int)).toNat)).n=_
   rw[Int.toNat_natCast]
  ·show V.addc (A2.dig d i) (A2.dig e i) c=_
   rw[ec,hs1,g3]
  ·show(32 - (i+1)).toNat < (32 - i).toNat
   omega
  ·subst hA2
   show aD .add .i64 i 1=i+1
   simp only[aD,IntKind.wrap_i64];omega
 ·apply hexit
  have hb: ¬ i < 32:=by subst hA2;simpa [aA,aP] using hb
  have hi:i=32:=by omega
  subst hi
  clear hexit hnext hret hstep
  cbv
  repeat' with_reducible first | (intro hb;cbv) | refine UM ?_ ?_
  have hd:=lZ d
  have he:=lZ e
  have h1:out.n=(d.n % 2 ^ (32*32)+e.n % 2 ^ (32*32)) % 2 ^ (32*32):=h1
  have h2:c=((d.n % 2 ^ (32*32)+e.n % 2 ^ (32*32)) / 2 ^ (32*32):Nat):=h2
  rw[hd,he] at h1 h2
  refine hk _ _ (bE.one (t:=2) rfl (by simp) (fun ρ=>?_) rfl (leD ?_))
  ·refine Rf ?_ rfl
   subst hA hV
   show(c == 0)=decide (d.n+e.n < 2 ^ 1024)
   rw[h2]
   by_cases h:d.n+e.n < 2 ^ 1024
   ·rw[Nat.div_eq_of_lt h];simp[h]
   ·have:0 < (d.n+e.n) / 2 ^ (32*32):=Nat.div_pos (by omega) (Nat.two_pow_pos _)
    have h0:decide (d.n+e.n < 2 ^ 1024)=false:=by simpa using h
    rw[h0,beq_eq_false_iff_ne]
    omega
  ·subst hV
   exact Dg.ext' h1
def tN2 (A:Alg) (S:SW) (V:SV):List (Nat×bU):=(209,aC [.pd, .pd] A (JL V)) :: ((tN1 A S V))
theorem LG:COK Tryz.prog (aN (tN2 aA aV aS)):=aB KG (LF)
def Jz (V:SV):List CV→List Blk→Option LR
 | [.s (.hp 0 0), .s (.hp 1 0)],[.fix false [.D d], .fix false [.D e]]=>some ⟨[V.leD e d], .c (.s (.hp 2 0)),[.fix true [.D (V.less d e)]]⟩
 | _,_=>none
theorem Kx:aJ Tryz.prog 210 (aC [.pd, .pd] aA (Jz aS)):=by
 refine aH (un:=⟨false,none⟩) tok LG aL (fn:=Tryz.f210) ?_
 intro w Wr args bs r hg ho hWr A L k hA hL hk
 obtain⟨S,hS⟩:=exE aV
 obtain⟨V,hV⟩:=exE aS
 try rw[← hS]
 try rw[← hV]
 try rw[← hA]
 unfold Jz at hg
 split at hg <;> cases hg
 rename_i d e
 have hde:e.n≤d.n:=by
  exact of_decide_eq_true (aG ho).1
 clear ho
 cbv
 refine hL _ _ _ (aQ (un:=⟨false,none⟩) tok LG aL (fun p:Int×Dg×Int=>⟨[(8,⟨[], .c (.s (.int .i64 p.1))⟩),(6,⟨[], .c (.s (.int .u32 p.2.2))⟩),(5,⟨[], .c (.s (.hp 2 0))⟩),(0,⟨[], .c (.s (.hp 0 0))⟩),(1,⟨[], .c (.s (.hp 1 0))⟩)],[(2, .fix true [.D p.2.1]),(0, .fix false [.D d]),(1, .fix false [.D e])],3⟩)
  (fun p=>0≤p.1∧p.1≤32∧(0≤p.2.2∧p.2.2≤1)∧p.2.1.n < 2 ^ (32*p.1.toNat)∧(p.2.1.n:Int)=(d.n % 2 ^ (32*p.1.toNat):Nat) - (e.n % 2 ^ (32*p.1.toNat):Nat)+(2 ^ (32*p.1.toNat):Nat)*p.2.2) (fun p=>(32 - p.1).toNat) (0,Dg.zero,0) ?_ ?_ (fun _ i hi=>by have:=hWr i hi;simp at this ⊢;omega) ?_)
 ·exact⟨by omega,by omega,⟨Int.le_refl _,by decide⟩,by simp[Dg.zero],by simp[Dg.zero,Nat.mod_one]⟩
 ·exact⟨⟨⟨rfl,rfl,fun _=>rfl⟩,⟨rfl,rfl,fun _=>rfl⟩,⟨rfl,rfl,fun _=>rfl⟩,⟨rfl,rfl,fun _=>rfl⟩,⟨rfl,rfl,fun _=>rfl⟩,trivial⟩,⟨⟨rfl,rfl,fun _=>rfl⟩,⟨rfl,rfl,fun _=>rfl⟩,⟨rfl,rfl,fun _=>rfl⟩,trivial⟩,rfl,rfl⟩
 rintro⟨i,out,c⟩ ⟨i0,i1,⟨hc0,hc1⟩,h1,h2⟩ A2 L2 k2 hA2 hL2 hnext hexit hret
 simp only at i0 i1 hc0 hc1 h1 h2
 have hd1:=fQ d i.toNat
 have he1:=fQ e i.toNat
 have hs1:(i+1).toNat=i.toNat+1:=by omega
 rw[← hA2, ← hS, ← hV]
 cbv
 repeat' with_reducible first | (intro hb;cbv) | refine UM ?_ ?_
 all_goals try (clear hnext hexit hret hk hL hL2 h1 h2;subst hA2 hV;simp only[aA,aP,aS,decide_eq_true_eq,bM] at *;omega)
 ·have hb:i < 32:=by subst hA2;simpa [aA,aP] using hb
  obtain⟨g1,g2⟩:=Dp d e out i.toNat c _ (by omega) hc0 hc1 h1 h2 rfl
  have eD:A2.dig d i=((d.dig i.toNat:Nat):Int):=by subst hA2;rfl
  have eE:A2.dig e i=((e.dig i.toNat:Nat):Int):=by subst hA2;rfl
  have es:V.subs (A2.dig d i) (A2.dig e i) c=((d.dig i.toNat:Nat) - (e.dig i.toNat:Nat) - c) % 4294967296:=by rw[eD,eE];subst hV;rfl
  have ec:V.subc (A2.dig d i) (A2.dig e i) c=if((d.dig i.toNat:Nat) - (e.dig i.toNat:Nat) - c:Int) < 0 then 1 else 0:=by rw[eD,eE];subst hV;rfl
  have eo:A2.setD out i (V.subs (A2.dig d i) (A2.dig e i) c)=out.set i.toNat (((d.dig i.toNat:Nat) - (e.dig i.toNat:Nat) - c:Int) % 4294967296).toNat:=by rw[es];subst hA2;rfl
  refine hnext _ (i+1,A2.setD out i (V.subs (A2.dig d i) (A2.dig e i) c),V.subc (A2.dig d i) (A2.dig e i) c) ⟨by show 0≤i+1;omega,by show i+1≤32;omega,?_,?_,?_⟩ ?_ ⟨⟨⟨rfl,rfl,leI ?_⟩,⟨rfl,rfl,fun _=>rfl⟩,⟨rfl,rfl,fun _=>rfl⟩,⟨rfl,rfl,fun _=>rfl⟩,⟨rfl,rfl,fun _=>rfl⟩,trivial⟩,⟨⟨rfl,rfl,fun _=>rfl⟩,⟨rfl,rfl,fun _=>rfl⟩,⟨rfl,rfl,fun _=>rfl⟩,trivial⟩,rfl,rfl⟩
  ·show 0≤V.subc (A2.dig d i) (A2.dig e i) c∧V.subc (A2.dig d i) (A2.dig e i) c≤1
   rw[ec];split <;> omega
  ·show(A2.setD out i (V.subs (A2.dig d i) (A2.dig e i) c)).n < _
   rw[eo,hs1];exact g2
  ·show((A2.setD out i (V.subs (A2.dig d i) (A2.dig e i) c)).n:Int)=_
   rw[eo,hs1,g1]
   show _=_+_*V.subc (A2.dig d i) (A2.dig e i) c
   rw[ec]
  ·show(32 - (i+1)).toNat < (32 - i).toNat
   omega
  ·subst hA2
   show aD .add .i64 i 1=i+1
   simp only[aD,IntKind.wrap_i64];omega
 ·apply hexit
  have hb: ¬ i < 32:=by subst hA2;simpa [aA,aP] using hb
  have hi:i=32:=by omega
  subst hi
  clear hexit hnext hret
  cbv
  repeat' with_reducible first | (intro hb;cbv) | refine UM ?_ ?_
  have hd:=lZ d
  have he:=lZ e
  have h1:out.n < 2 ^ (32*32):=h1
  have h2:(out.n:Int)=(d.n % 2 ^ (32*32):Nat) - (e.n % 2 ^ (32*32):Nat)+(2 ^ (32*32):Nat)*c:=h2
  rw[hd,he] at h2
  refine hk _ _ (bE.one (t:=2) rfl (by simp) (fun ρ=>?_) rfl (leD ?_))
  ·exact QH rfl
  ·subst hV
   apply Dg.ext'
   show out.n=d.n - e.n
   generalize (2 ^ (32*32):Nat)=P at h1 h2
   have hcc:c=0∨c=1:=by omega
   rcases hcc with rfl | rfl <;> omega
def tN3 (A:Alg) (S:SW) (V:SV):List (Nat×bU):=(210,aC [.pd, .pd] A (Jz V)) :: ((tN2 A S V))
theorem OS:COK Tryz.prog (aN (tN3 aA aV aS)):=aB Kx (LG)
def PM (V:SV):List CV→List Blk→Option LR
 | [.g [.W x], .g [.W y]],[]=>some ⟨[], .t [.g [.W (V.add x y)], .s (.bool (V.addOK x y))],[]⟩
 | _,_=>none
theorem KY:aJ Tryz.prog 189 (aC [.v, .v] aA (PM aS)):=by
 refine aH (un:=⟨false,none⟩) tok OS aL (fn:=Tryz.f189) ?_
 intro w Wr args bs r hg ho hWr A L k hA hL hk
 obtain⟨S,hS⟩:=exE aV
 obtain⟨V,hV⟩:=exE aS
 try rw[← hS]
 try rw[← hV]
 try rw[← hA]
 unfold PM at hg
 split at hg <;> cases hg
 rename_i x y
 have hz:=MX x y
 cbv
 repeat' with_reducible first | (intro hb;cbv) | refine UM ?_ ?_
 ·have hb0:A.8 (S.5 x) (S.5 y)=true:=by assumption
  have hb1:A.4 (V.9 x.d y.d)=true:=by assumption
  refine hk _ _ (bE.pure rfl fun ρ=>?_)
  subst hA hV hS
  have hb0:(aU x == aU y)=true:=hb0
  have hb1:(!aS.plusOK x.d y.d)=true:=hb1
  rw[Bool.not_eq_true'] at hb1
  refine BS ?_ ?_
  ·refine Eq.trans ?_ hz.1.symm
   rw[hb0,hb1];rfl
  ·refine Eq.trans ?_ hz.2.symm
   rw[hb0,hb1];rfl
 ·have hb0:A.8 (S.5 x) (S.5 y)=true:=by assumption
  have hb1:A.4 (V.9 x.d y.d)=false:=by assumption
  refine hk _ _ (bE.pure rfl fun ρ=>?_)
  subst hA hV hS
  have hb0:(aU x == aU y)=true:=hb0
  have hb1:(!aS.plusOK x.d y.d)=false:=hb1
  rw[Bool.not_eq_false'] at hb1
  refine BS ?_ ?_
  ·refine Eq.trans ?_ hz.1.symm
   rw[hb0,hb1];rfl
  ·refine Eq.trans ?_ hz.2.symm
   rw[hb0,hb1];rfl
 ·subst hA hV hS
  have hb:decide (sgn x.d.n y.d.n ≥ 0)=true:=by assumption
  simp only[decide_eq_true_eq] at hb
  show decide (y.d.n≤x.d.n)=true
  simp only[sgn] at hb
  simp only[decide_eq_true_eq]
  split at hb <;> omega
 ·have hb0:A.2 .geq (S.2 x.d y.d) 0=true:=by assumption
  have hb1:A.8 (S.5 x) (S.5 y)=false:=by assumption
  refine hk _ _ (bE.pure rfl fun ρ=>?_)
  subst hA hV hS
  have hb0:decide (sgn x.d.n y.d.n ≥ 0)=true:=hb0
  have hb1:(aU x == aU y)=false:=hb1
  refine BS ?_ ?_
  ·refine Eq.trans ?_ hz.1.symm
   rw[hb1,hb0];rfl
  ·refine Eq.trans ?_ hz.2.symm
   rw[hb1];rfl
 ·subst hA hV hS
  have hb:decide (sgn x.d.n y.d.n ≥ 0)=false:=by assumption
  simp only[decide_eq_false_iff_not] at hb
  show decide (x.d.n≤y.d.n)=true
  simp only[sgn] at hb
  simp only[decide_eq_true_eq]
  split at hb <;> omega
 ·have hb0:A.2 .geq (S.2 x.d y.d) 0=false:=by assumption
  have hb1:A.8 (S.5 x) (S.5 y)=false:=by assumption
  refine hk _ _ (bE.pure rfl fun ρ=>?_)
  subst hA hV hS
  have hb0:decide (sgn x.d.n y.d.n ≥ 0)=false:=hb0
  have hb1:(aU x == aU y)=false:=hb1
  refine BS ?_ ?_
  ·refine Eq.trans ?_ hz.1.symm
   rw[hb1,hb0];rfl
  ·refine Eq.trans ?_ hz.2.symm
   rw[hb1];rfl
def tN4 (A:Alg) (S:SW) (V:SV):List (Nat×bU):=(189,aC [.v, .v] A (PM V)) :: ((tN3 A S V))
theorem Ra:COK Tryz.prog (aN (tN4 aA aV aS)):=aB KY (OS)
def tN5 (A:Alg) (S:SW) (V:SV):List (Nat×bU):=((tN4 A S V))
theorem Rb:COK Tryz.prog (aN (tN5 aA aV aS)):=Ra
def tN6 (A:Alg) (S:SW) (V:SV):List (Nat×bU):=((tN5 A S V))
theorem LH:COK Tryz.prog (aN (tN6 aA aV aS)):=Rb
def xU (A:Alg) (V:SV):List CV→List Blk→Option LR
 | [.s (.hp 0 0), .s (.int .u32 n)],[.fix false [.D d]]=>some ⟨[A.cmp .leq 1 n,A.cmp .lss n 4294967296], .t [.s (.hp 1 0), .s (.int .u32 (V.byR d n))],[.fix true [.D (V.byQ d n)]]⟩
 | _,_=>none
theorem DC:aJ Tryz.prog 207 (aC [.pd, .v] aA (xU aA aS)):=by
 refine aH (un:=⟨false,none⟩) tok LH aL (fn:=Tryz.f207) ?_
 intro w Wr args bs r hg ho hWr A L k hA hL hk
 obtain⟨S,hS⟩:=exE aV
 obtain⟨V,hV⟩:=exE aS
 try rw[← hS]
 try rw[← hV]
 try rw[← hA]
 unfold xU at hg
 split at hg <;> cases hg
 rename_i n d
 have n1:=(aG ho).1;replace ho:=(aG ho).2
 have n2:=(aG ho).1;replace ho:=(aG ho).2
 clear ho
 simp only[aA,aP,decide_eq_true_eq] at n1 n2
 have hsz:=dA d 32
 cbv
 refine hL _ _ _ (aQ (un:=⟨false,none⟩) tok LH aL (fun p:Int×Dg×Int=>⟨[(8,⟨[], .c (.s (.int .i64 p.1))⟩),(7,⟨[], .c (.s (.int .u32 p.2.2))⟩),(6,⟨[], .c (.s (.hp 1 0))⟩),(0,⟨[], .c (.s (.hp 0 0))⟩),(1,⟨[], .c (.s (.int .u32 n))⟩)],[(1, .fix true [.D p.2.1]),(0, .fix false [.D d])],2⟩)
  (fun p=> -1≤p.1∧p.1 < 32∧p.2.1.n=d.n / 2 ^ (32*(p.1+1).toNat) / n.toNat*2 ^ (32*(p.1+1).toNat)∧p.2.2=((d.n / 2 ^ (32*(p.1+1).toNat) % n.toNat:Nat):Int)) (fun p=>(p.1+1).toNat) ((bA d:Int) - 1,Dg.zero,0) ?_ ?_ (fun _ i hi=>by have:=hWr i hi;simp at this ⊢;omega) ?_)
 ·have h0:d.n / 2 ^ (32*((bA d:Int) - 1+1).toNat)=0:=by
   rw[show((bA d:Int) - 1+1).toNat=bA d by omega]
   exact Nat.div_eq_of_lt ((dA d (bA d)).1 (Nat.le_refl _))
  have h32:bA d≤32:=hsz.2 d.lt
  refine⟨by show(-1:Int)≤(bA d:Int) - 1;omega,by show(bA d:Int) - 1 < 32;omega,?_,?_⟩
  ·show Dg.zero.n=_
   rw[h0];simp[Dg.zero]
  ·show(0:Int)=_
   rw[h0];simp
 ·refine⟨⟨⟨rfl,rfl,leI ?_⟩,⟨rfl,rfl,fun _=>rfl⟩,⟨rfl,rfl,fun _=>rfl⟩,⟨rfl,rfl,fun _=>rfl⟩,⟨rfl,rfl,fun _=>rfl⟩,trivial⟩,⟨⟨rfl,rfl,fun _=>rfl⟩,⟨rfl,rfl,fun _=>rfl⟩,trivial⟩,rfl,rfl⟩
  subst hA hS
  have h32:bA d≤32:=hsz.2 d.lt
  show aD .sub .i64 (bA d:Int) 1=(bA d:Int) - 1
  simp only[aD,IntKind.wrap_i64];omega
 rintro⟨i,out,c⟩ ⟨i0,i1,h1,h2⟩ A2 L2 k2 hA2 hL2 hnext hexit hret
 simp only at i0 i1 h1 h2
 have hd1:=fQ d i.toNat
 have hc0:0≤c:=by rw[h2];exact Int.natCast_nonneg _
 have hcn:c < n:=by
  have:=Nat.mod_lt (d.n / 2 ^ (32*(i+1).toNat)) (show 0 < n.toNat by omega)
  rw[h2];omega
 have hq:0≤i→(c*4294967296+(d.dig i.toNat:Nat)) / n=(((c.toNat*2 ^ 32+d.dig i.toNat) / n.toNat:Nat):Int)∧(c*4294967296+(d.dig i.toNat:Nat)) % n=(((c.toNat*2 ^ 32+d.dig i.toNat) % n.toNat:Nat):Int):=fun h=>by
  have e:(n.toNat:Int)=n:=by omega
  have e2:(c.toNat:Int)=c:=by omega
  rw[Int.natCast_ediv,Int.natCast_emod,Int.natCast_add,Int.natCast_mul,e,e2]
  exact⟨rfl,rfl⟩
 have hstep:0≤i→_:=fun h=>xF d out n.toNat i.toNat c.toNat (by omega) (by rw[h1,show(i+1).toNat=i.toNat+1 by omega]) (by rw[h2,show(i+1).toNat=i.toNat+1 by omega];exact Int.toNat_natCast _) (by omega) (by omega)
 rw[← hA2, ← hS, ← hV]
 cbv
 repeat' with_reducible first | (intro hb;cbv) | refine UM ?_ ?_
 all_goals try (clear hnext hexit hret hk hL hL2 h1 h2 hstep hq hsz;subst hA2;simp only[aA,aP,decide_eq_true_eq,bM] at *;omega)
 ·have hi0:0≤i:=by subst hA2;simpa [aA,aP] using hb
  clear hnext hexit hret hk hL hL2
  have eq:V.divq c (A2.dig d i) n=(((c.toNat*2 ^ 32+d.dig i.toNat) / n.toNat:Nat):Int):=by subst hV hA2;exact(hq hi0).1
  show A2.cmp .leq 0 (V.divq c (A2.dig d i) n)=true
  rw[eq];subst hA2;exact @decide_eq_true (0≤(((c.toNat*2 ^ 32+d.dig i.toNat) / n.toNat:Nat):Int)) _ (Int.natCast_nonneg _)
 ·have hi0:0≤i:=by subst hA2;simpa [aA,aP] using hb
  clear hnext hexit hret hk hL hL2
  have eq:V.divq c (A2.dig d i) n=(((c.toNat*2 ^ 32+d.dig i.toNat) / n.toNat:Nat):Int):=by subst hV hA2;exact(hq hi0).1
  have:=(hstep hi0).2.2
  show A2.cmp .lss (V.divq c (A2.dig d i) n) 4294967296=true
  rw[eq];subst hA2;simp only[aA,aP,decide_eq_true_eq];omega
 ·have hi0:0≤i:=by subst hA2;simpa [aA,aP] using hb
  obtain⟨g1,g2,g3⟩:=hstep hi0
  obtain⟨q1,q2⟩:=hq hi0
  have eq:V.divq c (A2.dig d i) n=(((c.toNat*2 ^ 32+d.dig i.toNat) / n.toNat:Nat):Int):=by subst hV hA2;exact q1
  have er:V.divr c (A2.dig d i) n=(((c.toNat*2 ^ 32+d.dig i.toNat) % n.toNat:Nat):Int):=by subst hV hA2;exact q2
  have hs1:(i - 1+1).toNat=i.toNat:=by omega
  refine hnext _ (i - 1,A2.setD out i (V.divq c (A2.dig d i) n),V.divr c (A2.dig d i) n) ⟨by show -1≤i - 1;omega,by show i - 1 < 32;omega,?_,?_⟩ ?_ ⟨⟨⟨rfl,rfl,leI ?_⟩,⟨rfl,rfl,fun _=>rfl⟩,⟨rfl,rfl,fun _=>rfl⟩,⟨rfl,rfl,fun _=>rfl⟩,⟨rfl,rfl,fun _=>rfl⟩,trivial⟩,⟨⟨rfl,rfl,fun _=>rfl⟩,⟨rfl,rfl,fun _=>rfl⟩,trivial⟩,rfl,rfl⟩
  ·show(A2.setD out i (V.divq c (A2.dig d i) n)).n=d.n / 2 ^ (32*(i - 1+1).toNat) / n.toNat*2 ^ (32*(i - 1+1).toNat)
   rw[eq,hs1, ← g1]
   subst hA2
   show(out.set i.toNat ((((c.toNat*2 ^ 32+d.dig i.toNat) / n.toNat:Nat):Int)).toNat).n=_
   rw[Int.toNat_natCast]
  ·show V.divr c (A2.dig d i) n=((d.n / 2 ^ (32*(i - 1+1).toNat) % n.toNat:Nat):Int)
   rw[er,hs1,g2]
  ·show(i - 1+1).toNat < (i+1).toNat
   omega
  ·subst hA2
   show aD .sub .i64 i 1=i - 1
   simp only[aD,IntKind.wrap_i64];omega
 ·apply hexit
  have hb: ¬ 0≤i:=by subst hA2;simpa [aA,aP] using hb
  have hi:i= -1:=by omega
  subst hi
  clear hexit hnext hret hstep
  cbv
  repeat' with_reducible first | (intro hb;cbv) | refine UM ?_ ?_
  have h1:out.n=d.n / 2 ^ (32*0) / n.toNat*2 ^ (32*0):=h1
  have h2:c=((d.n / 2 ^ (32*0) % n.toNat:Nat):Int):=h2
  simp only[Nat.mul_zero,Nat.pow_zero,Nat.div_one,Nat.mul_one] at h1 h2
  refine hk _ _ (bE.one (t:=1) rfl (by simp) (fun ρ=>?_) rfl (leD ?_))
  ·refine Rg ?_ rfl
   subst hV
   exact h2
  ·subst hV
   exact Dg.ext' h1
def tN7 (A:Alg) (S:SW) (V:SV):List (Nat×bU):=(207,aC [.pd, .v] A (xU A V)) :: ((tN6 A S V))
theorem LI:COK Tryz.prog (aN (tN7 aA aV aS)):=aB DC (LH)
theorem He (v n:Int) (h0:0≤v) (h1:v < 4294967296) (n0:0≤n) (n1:n < 32):aD .shl .u64 (IntKind.u64.wrap v) n=v*2 ^ n.toNat∧0≤v*2 ^ n.toNat∧v*2 ^ n.toNat < 18446744073709551616:=by
 have hp:(2:Nat) ^ n.toNat≤2 ^ 31:=Nat.pow_le_pow_right (by decide) (by omega)
 have hc:((2:Int) ^ n.toNat)=((2 ^ n.toNat:Nat):Int):=by simp
 have hb:v*((2 ^ n.toNat:Nat):Int) < 4294967296*2147483648:=by
  have h2:v*((2 ^ n.toNat:Nat):Int)≤v*2147483648:=Int.mul_le_mul_of_nonneg_left (by omega) h0
  omega
 have hz:0≤v*((2 ^ n.toNat:Nat):Int):=Int.mul_nonneg h0 (Int.natCast_nonneg _)
 have e1:IntKind.u64.wrap v=v:=by rw[cX];omega
 rw[e1]
 rw[hc]
 refine⟨?_,hz,by omega⟩
 show IntKind.u64.wrap (v*2 ^ min n.toNat 64)=_
 rw[Nat.min_eq_left (by omega),hc,cX]
 omega
theorem pL (w:Int) (h0:0≤w) (h1:w < 18446744073709551616):IntKind.u32.wrap (aD .and .u64 w 4294967295)=w % 4294967296:=by
 rw[EX w h0 h1,IntKind.wrap_u32];omega
theorem Dh (w:Int) (h0:0≤w) (h1:w < 18446744073709551616):IntKind.u32.wrap (aD .shr .u64 w 32)=w / 4294967296:=by
 rw[gK w h0,IntKind.wrap_u32];omega
theorem wK (l M:List Int) (i n:Int) (n1:0≤n) (n2:n < 32) (hW:W32 l) (hlen:(l.length:Int)≤64) (i0:0≤i) (i1:i < (l.length:Int)) (m1:W32 M) (m2:M.length=l.length+1) (m3:aM M=2 ^ n.toNat*aM (l.take i.toNat)) (m4:aM M < 2 ^ (32*i.toNat+n.toNat))
  (A:Alg) (hA:A=aA) (w a b:Int) (hw:w=A.bin .shl .u64 (A.wrap .u64 (A.get l i 0)) n) (ha:a=A.bin .or .u32 (A.get M i 0) (A.wrap .u32 (A.bin .and .u64 w 4294967295))) (hb:b=A.wrap .u32 (A.bin .shr .u64 w 32)) :
  W32 (A.set (A.set M i a) (A.bin .add .i64 i 1) b)∧(A.set (A.set M i a) (A.bin .add .i64 i 1) b).length=l.length+1∧aM (A.set (A.set M i a) (A.bin .add .i64 i 1) b)=2 ^ n.toNat*aM (l.take (i+1).toNat)∧aM (A.set (A.set M i a) (A.bin .add .i64 i 1) b) < 2 ^ (32*(i+1).toNat+n.toNat)∧
  A.bin .add .i64 i 1=i+1∧A.len (A.set M i a)=(l.length:Int)+1:=by
 subst hA
 have hgl:aA.get l i 0=l.getD i.toNat 0:=rfl
 have hgm:aA.get M i 0=M.getD i.toNat 0:=rfl
 obtain⟨v0,v1⟩:=hW.getD i.toNat
 obtain⟨u0,u1⟩:=m1.getD i.toNat
 obtain⟨s1,s2,s3⟩:=He (l.getD i.toNat 0) n v0 v1 n1 n2
 have hw':w=l.getD i.toNat 0*2 ^ n.toNat:=by rw[hw,hgl];exact s1
 rw[← hw'] at s2 s3
 have ha':a=(((M.getD i.toNat 0).toNat||| (w % 4294967296).toNat:Nat):Int):=by
  rw[ha,hgm]
  show aD .or .u32 _ (IntKind.u32.wrap (aD .and .u64 w 4294967295))=_
  rw[pL w s2 s3,Ir _ _ u0 u1 (by omega) (by omega)]
 have hb':b=w / 4294967296:=by rw[hb];exact Dh w s2 s3
 have e1:aA.bin .add .i64 i 1=i+1:=by
  show aD .add .i64 i 1=_
  simp only[aD,IntKind.wrap_i64];omega
 obtain⟨g1,g2,g3⟩:=Ap M i.toNat n.toNat _ w a b m1 (by omega) (by omega) v0 v1 m4 hw' ha' hb'
 have hi1:(i+1).toNat=i.toNat+1:=by omega
 have es:aA.set (aA.set M i a) (aA.bin .add .i64 i 1) b=(M.set i.toNat a).set (i.toNat+1) b:=by rw[e1, ← hi1];rfl
 rw[es,hi1]
 refine⟨g1,by simp[m2],?_,g3,e1,?_⟩
 ·rw[g2,m3]
  have:l.take (i.toNat+1)=l.take i.toNat++[l.getD i.toNat 0]:=by
   rw[List.take_add_one]
   congr 1
   rw[List.getD,List.getElem?_eq_getElem (by omega)];rfl
  rw[this,kS,List.length_take,Nat.min_eq_left (by omega),Nat.mul_add]
  congr 1
  rw[Nat.mul_comm (l.getD i.toNat 0).toNat, ← Nat.mul_assoc, ← Nat.mul_assoc,Nat.mul_comm (2 ^ (32*i.toNat))]
 ·show((M.set i.toNat a).length:Int)=_
  simp[m2]
def uK (A:Alg) (V:SV):List CV→List Blk→Option LR
 | [.s (.hs 0), .s (.int .i64 n)],[.vec false (.int .u32) l]=>some ⟨[A.cmp .leq 0 n,A.cmp .lss n 32,A.all32 l,A.cmp .leq (A.len l) 64], .c (.s (.hs 1)),[.vec true (.int .u32) (V.shl l n)]⟩
 | _,_=>none
theorem Bv:aJ Tryz.prog 218 (aC [.s (.int .u32), .v] aA (uK aA aS)):=by
 refine aH (un:=⟨false,none⟩) tok LI aL (fn:=Tryz.f218) ?_
 intro w Wr args bs r hg ho hWr A L k hA hL hk
 obtain⟨S,hS⟩:=exE aV
 obtain⟨V,hV⟩:=exE aS
 try rw[← hS]
 try rw[← hV]
 try rw[← hA]
 unfold uK at hg
 split at hg <;> cases hg
 rename_i n l
 have n1:0≤n:=of_decide_eq_true (aG ho).1
 have n2:n < 32:=of_decide_eq_true (aG (aG ho).2).1
 have hW:=W32.all (aG (aG (aG ho).2).2).1
 have hlen:(l.length:Int)≤64:=of_decide_eq_true (aG (aG (aG (aG ho).2).2).2).1
 clear ho
 have eL:A.len l=(l.length:Int):=by subst hA;rfl
 have eL1:A.bin .add .i64 (A.len l) 1=(l.length:Int)+1:=by rw[eL];subst hA;show aD .add .i64 _ _=_;simp only[aD,IntKind.wrap_i64];omega
 have f1:A.cmp .leq 0 (A.bin .add .i64 (A.len l) 1)=true:=by rw[eL1];subst hA;simp only[aA,aP,decide_eq_true_eq];omega
 have f2:A.cmp .eql (A.bin .add .i64 (A.len l) 1) (A.bin .add .i64 (A.len l) 1)=true:=by subst hA;simp only[aA,aP,beq_self_eq_true]
 have f3:A.cmp .leq (A.bin .add .i64 (A.len l) 1) 1000000=true:=by rw[eL1];subst hA;simp only[aA,aP,decide_eq_true_eq];omega
 have e:A.rep ((l.length:Int)+1) (0:Int)=List.replicate (l.length+1) 0:=by subst hA;show List.replicate ((l.length:Int)+1).toNat 0=_;congr 1
 have step:=fun(i:Int) (M:List Int) (i0:0≤i) (i1:i < (l.length:Int)) (m1:W32 M) (m2:M.length=l.length+1) (m3:aM M=2 ^ n.toNat*aM (l.take i.toNat)) (m4:aM M < 2 ^ (32*i.toNat+n.toNat))=>wK l M i n n1 n2 hW hlen i0 i1 m1 m2 m3 m4
 have fin: ∀ M:List Int,W32 M→M.length=l.length+1→aM M=2 ^ n.toNat*aM l→M=aS.shl l n:=fun M h1 h2 h3=>by
  show M=iM (2 ^ n.toNat*aM l) (l.length+1)
  rw[← h3, ← h2,mL h1]
 have init:aM (List.replicate (l.length+1) 0)=2 ^ n.toNat*aM (l.take (0:Int).toNat)∧aM (List.replicate (l.length+1) 0) < 2 ^ (32*(0:Int).toNat+n.toNat):=by
  rw[kQ]
  exact⟨by simp[aM],Nat.two_pow_pos _⟩
 have hl0:(0:Int)≤(l.length:Int):=Int.natCast_nonneg _
 cbv
 repeat' with_reducible first | (intro hb;cbv) | refine UM ?_ ?_
 ·exact f1
 ·exact f2
 ·exact f3
 refine hL _ _ _ (aQ (un:=⟨false,none⟩) tok LI aL (fun p:Int×List Int=>⟨[(15,⟨[], .c (.s (.int .i64 p.1))⟩),(5,⟨[], .c (.s (.hs 1))⟩),(13,⟨[], .c (.s (.hs 0))⟩),(14,⟨[], .c (.s (.int .i64 (aA.len l)))⟩),(1,⟨[], .c (.s (.int .i64 n))⟩)],[(1, .vec true (.int .u32) p.2),(0, .vec false (.int .u32) l)],2⟩)
  (fun p=>0≤p.1∧p.1≤l.length∧W32 p.2∧p.2.length=l.length+1∧aM p.2=2 ^ n.toNat*aM (l.take p.1.toNat)∧aM p.2 < 2 ^ (32*p.1.toNat+n.toNat)) (fun p=>(l.length - p.1).toNat) (0,A.rep (A.bin .add .i64 (A.len l) 1) 0) ?_ ?_ (fun _ i hi=>by have:=hWr i hi;simp at this ⊢;omega) ?_)
 ·refine⟨Int.le_refl 0,hl0,?_,?_,?_,?_⟩
  ·rw[eL1,e];intro v hv;have:=List.eq_of_mem_replicate hv;omega
  ·rw[eL1,e];exact List.length_replicate
  ·rw[eL1,e];exact init.1
  ·rw[eL1,e];exact init.2
 ·exact⟨⟨⟨rfl,rfl,fun _=>rfl⟩,⟨rfl,rfl,fun _=>rfl⟩,⟨rfl,rfl,fun _=>rfl⟩,⟨rfl,rfl,leI (by subst hA;rfl)⟩,⟨rfl,rfl,fun _=>rfl⟩,trivial⟩,⟨aF rfl,aF rfl,trivial⟩,rfl,rfl⟩
 rintro⟨i,M⟩ ⟨i0,i1,m1,m2,m3,m4⟩ A2 L2 k2 hA2 hL2 hnext hexit hret
 simp only at i0 i1 m1 m2 m3 m4
 have hlm:A2.len M=(l.length:Int)+1:=by subst hA2;show(M.length:Int)=_;rw[m2];simp
 have o0:A2.cmp .leq 0 i=true:=by subst hA2;exact decide_eq_true i0
 have on:A2.cmp .geq n 0=true:=by subst hA2;exact decide_eq_true n1
 have oi:A2.cmp .lss i (A2.len l)=true→i < (l.length:Int):=fun h=>by subst hA2;exact of_decide_eq_true h
 have oe:A2.cmp .lss i (A2.len l)=false→i=(l.length:Int):=fun h=>by subst hA2;have: ¬ i < (l.length:Int):=of_decide_eq_false h;omega
 have oM:A2.cmp .lss i (A2.len l)=true→A2.cmp .lss i (A2.len M)=true:=fun h=>by
  have:=oi h
  rw[hlm];subst hA2;exact decide_eq_true (by omega)
 have st:=fun h:A2.cmp .lss i (A2.len l)=true=>step i M i0 (oi h) m1 m2 m3 m4 A2 hA2 _ _ _ rfl rfl rfl
 have ol:A2.cmp .lss i (A2.len l)=true→A2.cmp .leq 0 (A2.bin .add .i64 i 1)=true:=fun h=>by
  rw[(st h).2.2.2.2.1];subst hA2;exact decide_eq_true (by omega)
 have oM': ∀ h:A2.cmp .lss i (A2.len l)=true,A2.cmp .lss (A2.bin .add .i64 i 1) (A2.len (A2.set M i (A2.bin .or .u32 (A2.get M i 0) (A2.wrap .u32 (A2.bin .and .u64 (A2.bin .shl .u64 (A2.wrap .u64 (A2.get l i 0)) n) 4294967295)))))=true:=fun h=>by
  have:=oi h
  rw[(st h).2.2.2.2.1,(st h).2.2.2.2.2];subst hA2;show decide (i+1 < (l.length:Int)+1)=true;exact decide_eq_true (by omega)
 have en:A2.cmp .lss i (A2.len l)=true→(l.length - (i+1)).toNat < (l.length - i).toNat:=fun h=>by have:=oi h;omega
 have e0:(0:Int)≤i+1:=by omega
 have e1:A2.cmp .lss i (A2.len l)=true→i+1≤(l.length:Int):=fun h=>by have:=oi h;omega
 have fin':A2.cmp .lss i (A2.len l)=false→M=aS.shl l n:=fun h=>fin M m1 m2 (by rw[m3,oe h,Int.toNat_natCast,List.take_length])
 rw[← hA2, ← hS, ← hV]
 cbv
 repeat' with_reducible first | (intro hb;cbv) | refine UM ?_ ?_
 all_goals first | exact o0 | exact on | exact hb | exact oM hb | exact ol hb | exact oM' hb | skip
 ·obtain⟨g1,g2,g3,g4,g5,_⟩:=st hb
  refine hnext _ (i+1,_) ⟨e0,e1 hb,g1,g2,g3,g4⟩ (en hb) ⟨⟨⟨rfl,rfl,leI g5⟩,⟨rfl,rfl,fun _=>rfl⟩,⟨rfl,rfl,fun _=>rfl⟩,⟨rfl,rfl,leI (by subst hA2;rfl)⟩,⟨rfl,rfl,fun _=>rfl⟩,trivial⟩,⟨leV rfl,aF rfl,trivial⟩,rfl,rfl⟩
 ·apply hexit
  have hM:=fin' hb
  clear hexit hnext hret st oM' ol oM
  cbv
  repeat' with_reducible first | (intro hb;cbv) | refine UM ?_ ?_
  refine hk _ _ (bE.one (t:=1) rfl (by simp) (fun ρ=>rfl) rfl (leV ?_))
  subst hV
  exact hM
def tN8 (A:Alg) (S:SW) (V:SV):List (Nat×bU):=(218,aC [.s (.int .u32), .v] A (uK A V)) :: ((tN7 A S V))
theorem LJ:COK Tryz.prog (aN (tN8 aA aV aS)):=aB Bv (LI)
theorem FL (u2 u1 u0 v1 v0 q r:Nat) (h1:u1 < 2 ^ 32) (h0:u0 < 2 ^ 32) (k0:v0 < 2 ^ 32) (hv:1≤v1) (hu:u2≤v1) (T:Nat) (hT:T=min 4294967295 ((u2*2 ^ 64+u1*2 ^ 32+u0) / (v1*2 ^ 32+v0)))
  (hq:q*v1+r=u2*2 ^ 32+u1) (hr:r < 2 ^ 32) (hTq:T≤q) :
  ((4294967295 < q∨r*2 ^ 32+u0 < q*v0)→1≤q∧T≤q - 1∧(q - 1)*v1+(r+v1)=u2*2 ^ 32+u1∧(4294967295 < r+v1→q - 1=T))∧
  (¬ (4294967295 < q∨r*2 ^ 32+u0 < q*v0)→q=T):=by
 have hV:0 < v1*2 ^ 32+v0:=by omega
 have hTle: ∀ m:Nat,m≤4294967295→m*(v1*2 ^ 32+v0)≤u2*2 ^ 64+u1*2 ^ 32+u0→m≤T:=fun m h h'=>by
  have:=(Nat.le_div_iff_mul_le hV).2 h'
  omega
 have hTv:T*(v1*2 ^ 32+v0)≤u2*2 ^ 64+u1*2 ^ 32+u0:=by
  have h:=Nat.div_mul_le_self (u2*2 ^ 64+u1*2 ^ 32+u0) (v1*2 ^ 32+v0)
  have:T≤(u2*2 ^ 64+u1*2 ^ 32+u0) / (v1*2 ^ 32+v0):=by omega
  exact Nat.le_trans (Nat.mul_le_mul_right _ this) h
 have hTB:T≤4294967295:=by omega
 have exp: ∀ m:Nat,m*(v1*2 ^ 32+v0)=m*v1*2 ^ 32+m*v0:=fun m=>by rw[Nat.mul_add,Nat.mul_assoc]
 have e64:u2*2 ^ 64=u2*2 ^ 32*2 ^ 32:=by omega
 constructor
 ·intro hc
  have hlt:T < q:=by
   rcases hc with hc | hc
   ·omega
   ·rcases Nat.lt_or_ge T q with h | h
    ·exact h
    ·have:T=q:=by omega
     subst this
     rw[exp] at hTv
     generalize T*v1=a at *
     generalize T*v0=b at *
     omega
  have hq1:1≤q:=by omega
  obtain⟨p,rfl⟩: ∃ p,q=p+1:=⟨q - 1,by omega⟩
  rw[Nat.add_sub_cancel]
  have hq':p*v1+(r+v1)=u2*2 ^ 32+u1:=by rw[← hq,Nat.add_mul];omega
  refine⟨hq1,by omega,hq',fun hbig=>?_⟩
  have hpB:p≤4294967295:=by
   have hlt:p*v1 < 4294967296*v1:=by
    have:u2*2 ^ 32≤v1*2 ^ 32:=Nat.mul_le_mul_right _ hu
    generalize p*v1=a at *
    omega
   have:=Nat.lt_of_mul_lt_mul_right hlt
   omega
  have hpv:p*v0≤4294967295*4294967295:=Nat.mul_le_mul hpB (by omega)
  have:p≤T:=hTle p hpB (by
   rw[exp,e64]
   generalize p*v1=a at *
   generalize p*v0=b at *
   omega)
  omega
 ·intro hc
  have:q≤T:=hTle q (by omega) (by
   rw[exp,e64]
   generalize q*v1=a at *
   generalize q*v0=b at *
   omega)
  omega
theorem yD (u2 u1 u0 v1 v0:Nat) (h0:u0 < 2 ^ 32) (hv:1≤v1) (T:Nat) (hT:T=min 4294967295 ((u2*2 ^ 64+u1*2 ^ 32+u0) / (v1*2 ^ 32+v0))):T≤(u2*2 ^ 32+u1) / v1:=by
 rw[Nat.le_div_iff_mul_le hv]
 have h:=Nat.div_mul_le_self (u2*2 ^ 64+u1*2 ^ 32+u0) (v1*2 ^ 32+v0)
 have:T≤(u2*2 ^ 64+u1*2 ^ 32+u0) / (v1*2 ^ 32+v0):=by omega
 have h2:=Nat.le_trans (Nat.mul_le_mul_right (v1*2 ^ 32+v0) this) h
 rw[Nat.mul_add, ← Nat.mul_assoc] at h2
 generalize T*v1=a at *
 generalize T*v0=b at *
 omega
def GI (u v:List Int) (q r:Int):Prop:=0≤q∧0≤r∧q.toNat*(v.getD 1 0).toNat+r.toNat=(u.getD 2 0).toNat*2 ^ 32+(u.getD 1 0).toNat∧r < 4294967296∧jC u v≤q.toNat
theorem Bh {u v:List Int} (h:aS.guessOK u v=true):tP u v:=by
 simp only[aS,Bool.and_eq_true,decide_eq_true_eq] at h
 obtain⟨⟨⟨⟨⟨h1,h2⟩,h3⟩,h4⟩,h5⟩,h6⟩:=h
 exact⟨h1,h2,h3,h4,W32.all h5,W32.all h6⟩
theorem eR (x:Int) (h0:0≤x) (h1:x < 18446744073709551616):IntKind.u64.wrap x=x:=by rw[cX];omega
theorem Bi {u v:List Int} (h:tP u v) (A:Alg) (hA:A=aA) :
  GI u v (A.bin .quo .u64 (A.bin .or .u64 (A.bin .shl .u64 (A.wrap .u64 (A.get u 2 0)) 32) (A.wrap .u64 (A.get u 1 0))) (A.wrap .u64 (A.get v 1 0))) (A.bin .rem .u64 (A.bin .or .u64 (A.bin .shl .u64 (A.wrap .u64 (A.get u 2 0)) 32) (A.wrap .u64 (A.get u 1 0))) (A.wrap .u64 (A.get v 1 0)))∧
  A.cmp .neq (A.wrap .u64 (A.get v 1 0)) 0=true:=by
 subst hA
 obtain⟨a2,b2⟩:=h.wu.getD 2
 obtain⟨a1,b1⟩:=h.wu.getD 1
 obtain⟨a0,b0⟩:=h.wu.getD 0
 obtain⟨c1,d1⟩:=h.wv.getD 1
 have hv:=h.v1
 have first:=yD (u.getD 2 0).toNat (u.getD 1 0).toNat (u.getD 0 0).toNat (v.getD 1 0).toNat (v.getD 0 0).toNat (by omega) (by omega) (jC u v) rfl
 unfold GI
 generalize jC u v=T at first ⊢
 show(0≤aD .quo .u64 (aD .or .u64 (aD .shl .u64 (IntKind.u64.wrap (u.getD 2 0)) 32) (IntKind.u64.wrap (u.getD 1 0))) (IntKind.u64.wrap (v.getD 1 0))∧_)∧(IntKind.u64.wrap (v.getD 1 0) != 0)=true
 show(0≤aD .quo .u64 (aD .or .u64 (aD .shl .u64 (IntKind.u64.wrap (u.getD 2 0)) 32) (IntKind.u64.wrap (u.getD 1 0))) (IntKind.u64.wrap (v.getD 1 0))∧0≤aD .rem .u64 (aD .or .u64 (aD .shl .u64 (IntKind.u64.wrap (u.getD 2 0)) 32) (IntKind.u64.wrap (u.getD 1 0))) (IntKind.u64.wrap (v.getD 1 0))∧
  (aD .quo .u64 (aD .or .u64 (aD .shl .u64 (IntKind.u64.wrap (u.getD 2 0)) 32) (IntKind.u64.wrap (u.getD 1 0))) (IntKind.u64.wrap (v.getD 1 0))).toNat*(v.getD 1 0).toNat+(aD .rem .u64 (aD .or .u64 (aD .shl .u64 (IntKind.u64.wrap (u.getD 2 0)) 32) (IntKind.u64.wrap (u.getD 1 0))) (IntKind.u64.wrap (v.getD 1 0))).toNat=(u.getD 2 0).toNat*2 ^ 32+(u.getD 1 0).toNat∧
  aD .rem .u64 (aD .or .u64 (aD .shl .u64 (IntKind.u64.wrap (u.getD 2 0)) 32) (IntKind.u64.wrap (u.getD 1 0))) (IntKind.u64.wrap (v.getD 1 0)) < 4294967296∧T≤(aD .quo .u64 (aD .or .u64 (aD .shl .u64 (IntKind.u64.wrap (u.getD 2 0)) 32) (IntKind.u64.wrap (u.getD 1 0))) (IntKind.u64.wrap (v.getD 1 0))).toNat)∧_
 generalize u.getD 2 0=u2 at *
 generalize u.getD 1 0=u1 at *
 generalize v.getD 1 0=v1 at *
 rw[eR u2 a2 (by omega),eR u1 a1 (by omega),eR v1 c1 (by omega),Hc u2 a2 b2,zU u2 u1 a2 b2 a1 b1]
 obtain⟨N,hN⟩: ∃ N:Int,N=u2*4294967296+u1:=⟨_,rfl⟩
 have hN2:u2.toNat*2 ^ 32+u1.toNat=N.toNat:=by rw[hN];omega
 have hN0:0≤N:=by omega
 have hN1:N < 18446744073709551616:=by omega
 rw[← hN]
 rw[hN2] at first ⊢
 have h1:=Int.emod_nonneg N (show v1≠0 by omega)
 have h2:=Int.emod_lt_of_pos N (show 0 < v1 by omega)
 have h3:=Int.ediv_nonneg hN0 c1
 have h4:N / v1≤N:=Int.ediv_le_self _ hN0
 have eq:aD .quo .u64 N v1=N / v1:=by
  show IntKind.u64.wrap (N.tdiv v1)=_
  rw[Int.tdiv_eq_ediv_of_nonneg hN0,eR _ h3 (by omega)]
 have er:aD .rem .u64 N v1=N % v1:=by
  show N.tmod v1=_
  rw[Int.tmod_eq_emod_of_nonneg hN0]
 rw[eq,er]
 have e1:(N / v1).toNat=N.toNat / v1.toNat:=by
  have:N / v1=((N.toNat / v1.toNat:Nat):Int):=by rw[Int.natCast_ediv];congr 1 <;> omega
  rw[this,Int.toNat_natCast]
 have e2:(N % v1).toNat=N.toNat % v1.toNat:=by
  have:N % v1=((N.toNat % v1.toNat:Nat):Int):=by rw[Int.natCast_emod];congr 1 <;> omega
  rw[this,Int.toNat_natCast]
 rw[e1,e2]
 refine⟨⟨h3,h1,?_,by omega,first⟩,?_⟩
 ·rw[Nat.mul_comm];exact Nat.div_add_mod _ _
 ·rw[bne_iff_ne];omega
theorem yE {u v:List Int} (h:tP u v) (A:Alg) (hA:A=aA) {q r:Int} (hI:GI u v q r) :
  (A.ite (A.cmp .gtr q 4294967295) true (A.cmp .gtr (A.bin .mul .u64 q (A.wrap .u64 (A.get v 0 0))) (A.bin .or .u64 (A.bin .shl .u64 r 32) (A.wrap .u64 (A.get u 0 0))))=true→
   (A.cmp .gtr (A.bin .add .u64 r (A.wrap .u64 (A.get v 1 0))) 4294967295=true→A.bin .sub .u64 q 1=aS.guess u v)∧
   (A.cmp .gtr (A.bin .add .u64 r (A.wrap .u64 (A.get v 1 0))) 4294967295=false→GI u v (A.bin .sub .u64 q 1) (A.bin .add .u64 r (A.wrap .u64 (A.get v 1 0)))∧(4294967296 - A.bin .add .u64 r (A.wrap .u64 (A.get v 1 0))).toNat < (4294967296 - r).toNat))∧
  (A.ite (A.cmp .gtr q 4294967295) true (A.cmp .gtr (A.bin .mul .u64 q (A.wrap .u64 (A.get v 0 0))) (A.bin .or .u64 (A.bin .shl .u64 r 32) (A.wrap .u64 (A.get u 0 0))))=false→q=aS.guess u v):=by
 subst hA
 obtain⟨a2,b2⟩:=h.wu.getD 2
 obtain⟨a1,b1⟩:=h.wu.getD 1
 obtain⟨a0,b0⟩:=h.wu.getD 0
 obtain⟨c1,d1⟩:=h.wv.getD 1
 obtain⟨c0,d0⟩:=h.wv.getD 0
 have hv:=h.v1
 have huv:=h.uv
 obtain⟨q0,r0,hq,hr,hTq⟩:=hI
 obtain⟨s1,s2⟩:=FL (u.getD 2 0).toNat (u.getD 1 0).toNat (u.getD 0 0).toNat (v.getD 1 0).toNat (v.getD 0 0).toNat q.toNat r.toNat (by omega) (by omega) (by omega) (by omega) (by omega) (jC u v) rfl hq (by omega) hTq
 have hres:aS.guess u v=((jC u v:Nat):Int):=rfl
 rw[hres]
 unfold GI
 generalize jC u v=T at *
 have eadd:aA.bin .add .u64 r (aA.wrap .u64 (aA.get v 1 0))=r+v.getD 1 0:=by
  show aD .add .u64 r (IntKind.u64.wrap (v.getD 1 0))=_
  rw[eR _ c1 (by omega)]
  show IntKind.u64.wrap (r+v.getD 1 0)=_
  exact eR _ (by omega) (by omega)
 have ecmp:aA.cmp .gtr (aA.bin .add .u64 r (aA.wrap .u64 (aA.get v 1 0))) 4294967295=decide (4294967295 < r+v.getD 1 0):=by rw[eadd];rfl
 have eor:aA.bin .or .u64 (aA.bin .shl .u64 r 32) (aA.wrap .u64 (aA.get u 0 0))=r*4294967296+u.getD 0 0:=by
  show aD .or .u64 (aD .shl .u64 r 32) (IntKind.u64.wrap (u.getD 0 0))=_
  rw[eR _ a0 (by omega),Hc r r0 hr,zU r _ r0 hr a0 b0]
 have econd: ∀ b:Bool,aA.ite (aA.cmp .gtr q 4294967295) true (aA.cmp .gtr (aA.bin .mul .u64 q (aA.wrap .u64 (aA.get v 0 0))) (aA.bin .or .u64 (aA.bin .shl .u64 r 32) (aA.wrap .u64 (aA.get u 0 0))))=b↔decide (4294967295 < q.toNat∨r.toNat*2 ^ 32+(u.getD 0 0).toNat < q.toNat*(v.getD 0 0).toNat)=b:=fun b=>by
  have:aA.ite (aA.cmp .gtr q 4294967295) true (aA.cmp .gtr (aA.bin .mul .u64 q (aA.wrap .u64 (aA.get v 0 0))) (aA.bin .or .u64 (aA.bin .shl .u64 r 32) (aA.wrap .u64 (aA.get u 0 0))))=decide (4294967295 < q.toNat∨r.toNat*2 ^ 32+(u.getD 0 0).toNat < q.toNat*(v.getD 0 0).toNat):=by
   rw[eor]
   show(if decide (q > 4294967295)=true then true else decide (aD .mul .u64 q (IntKind.u64.wrap (v.getD 0 0)) > r*4294967296+u.getD 0 0))=_
   by_cases hb:q > 4294967295
   ·rw[if_pos (decide_eq_true hb)];exact(decide_eq_true (.inl (by omega))).symm
   ·rw[if_neg (by simpa using hb),eR _ c0 (by omega)]
    have hm:0≤q*v.getD 0 0:=Int.mul_nonneg q0 c0
    have hm2:q*v.getD 0 0 < 18446744073709551616:=by
     have h1:q*v.getD 0 0≤4294967295*v.getD 0 0:=Int.mul_le_mul_of_nonneg_right (by omega) c0
     omega
    have e:aD .mul .u64 q (v.getD 0 0)=q*v.getD 0 0:=by
     show IntKind.u64.wrap (q*v.getD 0 0)=_
     exact eR _ hm hm2
    rw[e]
    have e2:((q.toNat*(v.getD 0 0).toNat:Nat):Int)=q*v.getD 0 0:=by rw[Int.natCast_mul,Int.toNat_of_nonneg q0,Int.toNat_of_nonneg c0]
    rw[decide_eq_decide]
    generalize q.toNat*(v.getD 0 0).toNat=m at e2 ⊢
    omega
  rw[this]
 rw[econd true,econd false,ecmp,eadd,decide_eq_true_eq,decide_eq_false_iff_not,decide_eq_true_eq,decide_eq_false_iff_not]
 refine⟨fun hc=>?_,fun hc=>?_⟩
 ·obtain⟨g1,g2,g3,g4⟩:=s1 hc
  have esub:aA.bin .sub .u64 q 1=q - 1:=by
   show IntKind.u64.wrap (q - 1)=_
   refine eR _ (by omega) ?_
   have:q.toNat≤(u.getD 2 0).toNat*2 ^ 32+(u.getD 1 0).toNat:=by
    have:=Nat.le_mul_of_pos_right q.toNat (show 0 < (v.getD 1 0).toNat by omega)
    omega
   omega
  rw[esub]
  have ht:(q - 1).toNat=q.toNat - 1:=by omega
  have ha:(r+v.getD 1 0).toNat=r.toNat+(v.getD 1 0).toNat:=by omega
  refine⟨fun hb=>?_,fun hb=>⟨⟨by omega,by omega,?_,by omega,by rw[ht];exact g2⟩,by omega⟩⟩
  ·have:=g4 (by omega)
   omega
  ·rw[ht,ha];exact g3
 ·have:=s2 hc
  omega
def CW (V:SV):List CV→List Blk→Option LR
 | [.s (.hs 0), .s (.hs 1)],[.vec false (.int .u32) u, .vec false (.int .u32) v]=>some ⟨[V.guessOK u v], .c (.s (.int .u64 (V.guess u v))),[]⟩
 | _,_=>none
theorem Gg:aJ Tryz.prog 219 (aC [.s (.int .u32), .s (.int .u32)] aA (CW aS)):=by
 refine aH (un:=⟨false,none⟩) tok LJ aL (fn:=Tryz.f219) ?_
 intro w Wr args bs r hg ho hWr A L k hA hL hk
 obtain⟨S,hS⟩:=exE aV
 obtain⟨V,hV⟩:=exE aS
 try rw[← hS]
 try rw[← hV]
 try rw[← hA]
 unfold CW at hg
 split at hg <;> cases hg
 rename_i u v
 have hok:=Bh (aG ho).1
 clear ho
 have init:=Bi hok A hA
 have lu: ∀ A2:Alg,A2=aA→ ∀ k:Int,k≤2→A2.cmp .lss k (A2.len u)=true:=fun A2 h k hk=>by subst h;exact decide_eq_true (by show k < (u.length:Int);have:=hok.lu;omega)
 have lv: ∀ A2:Alg,A2=aA→ ∀ k:Int,k≤1→A2.cmp .lss k (A2.len v)=true:=fun A2 h k hk=>by subst h;exact decide_eq_true (by show k < (v.length:Int);have:=hok.lv;omega)
 have ln: ∀ A2:Alg,A2=aA→ ∀ k:Int,0≤k→A2.cmp .leq 0 k=true:=fun A2 h k hk=>by subst h;exact decide_eq_true hk
 cbv
 repeat' with_reducible first | (intro hb;cbv) | refine UM ?_ ?_
 all_goals first | exact lu A hA _ (by decide) | exact lv A hA _ (by decide) | exact ln A hA _ (by decide) | exact init.2 | skip
 refine hL _ _ _ (aQ (un:=⟨false,none⟩) tok LJ aL (fun p:Int×Int=>⟨[(6,⟨[], .c (.s (.int .u64 p.1))⟩),(7,⟨[], .c (.s (.int .u64 p.2))⟩),(0,⟨[], .c (.s (.hs 0))⟩),(1,⟨[], .c (.s (.hs 1))⟩)],[(0, .vec false (.int .u32) u),(1, .vec false (.int .u32) v)],2⟩)
  (fun p=>GI u v p.1 p.2) (fun p=>(4294967296 - p.2).toNat) (_,_) init.1 ?_ (fun _ i hi=>by have:=hWr i hi;simp at this ⊢;omega) ?_)
 ·exact⟨⟨⟨rfl,rfl,fun _=>rfl⟩,⟨rfl,rfl,fun _=>rfl⟩,⟨rfl,rfl,fun _=>rfl⟩,⟨rfl,rfl,fun _=>rfl⟩,trivial⟩,⟨aF rfl,aF rfl,trivial⟩,rfl,rfl⟩
 clear init
 rintro⟨q,r⟩ hI A2 L2 k2 hA2 hL2 hnext hexit hret
 have st:=yE hok A2 hA2 hI
 have im: ∀ a b:Bool,b=true→A2.imp a b=true:=fun a b h=>by subst hA2 h;show(!a||true)=true;simp
 rw[← hA2, ← hS, ← hV]
 cbv
 repeat' with_reducible first | (intro hb;cbv) | refine UM ?_ ?_
 all_goals first | exact im _ _ (lu A2 hA2 _ (by decide)) | exact im _ _ (lv A2 hA2 _ (by decide)) | exact im _ _ (ln A2 hA2 _ (by decide)) | exact lv A2 hA2 _ (by decide) | exact ln A2 hA2 _ (by decide) | skip
 ·rename_i hb0
  apply hexit
  have hM:=(st.1 hb0).1 hb
  clear hexit hnext hret st
  cbv
  refine hk _ _ (bE.pure rfl fun ρ=>?_)
  subst hV
  exact B2 hM
 ·rename_i hb0
  obtain⟨g1,g2⟩:=(st.1 hb0).2 hb
  exact hnext _ (_,_) g1 g2 ⟨⟨⟨rfl,rfl,fun _=>rfl⟩,⟨rfl,rfl,fun _=>rfl⟩,⟨rfl,rfl,fun _=>rfl⟩,⟨rfl,rfl,fun _=>rfl⟩,trivial⟩,⟨aF rfl,aF rfl,trivial⟩,rfl,rfl⟩
 ·apply hexit
  have hM:=st.2 hb
  clear hexit hnext hret st
  cbv
  refine hk _ _ (bE.pure rfl fun ρ=>?_)
  subst hV
  exact B2 hM
def tN9 (A:Alg) (S:SW) (V:SV):List (Nat×bU):=(219,aC [.s (.int .u32), .s (.int .u32)] A (CW V)) :: ((tN8 A S V))
theorem LK:COK Tryz.prog (aN (tN9 aA aV aS)):=aB Gg (LJ)
structure oX (l v:List Int) (lo hi:Int):Prop where
 lo0:0≤lo
 loh:lo≤hi
 hl:hi≤l.length
 w:hi - lo=v.length+1
 wl:W32 l
 wv:W32 v
 ln:(l.length:Int)≤1000
theorem oX.of {l v:List Int} {lo hi:Int} {ob:List Bool} (h: ∀ b,b∈aA.cmp .leq 0 lo :: aA.cmp .leq lo hi :: aA.cmp .leq hi (aA.len l) :: aA.cmp .eql (aA.isub hi lo) (aA.iadd (aA.len v) 1) :: aA.all32 l :: aA.all32 v :: aA.cmp .leq (aA.len l) 1000 :: ob→b=true):oX l v lo hi:=by
 obtain⟨h1,h⟩:=aG h
 obtain⟨h2,h⟩:=aG h
 obtain⟨h3,h⟩:=aG h
 obtain⟨h4,h⟩:=aG h
 obtain⟨h5,h⟩:=aG h
 obtain⟨h6,h⟩:=aG h
 obtain⟨h7,h⟩:=aG h
 refine⟨of_decide_eq_true h1,of_decide_eq_true h2,of_decide_eq_true h3,?_,W32.all h5,W32.all h6,of_decide_eq_true h7⟩
 have h4:(hi - lo == (v.length:Int)+1)=true:=h4
 simpa using h4
theorem oX.rest {a b c d e f g:Bool} {ob:List Bool} (h: ∀ x,x∈a :: b :: c :: d :: e :: f :: g :: ob→x=true): ∀ x,x∈ob→x=true:=fun x hx=>h x (by simp[hx])
def GvI (l v:List Int) (lo i:Int) (M:List Int) (c:Int):Prop:=
 0≤i∧i≤v.length∧M=wst l lo.toNat ((lS l lo.toNat i.toNat+lS v 0 i.toNat) % 2 ^ (32*i.toNat)) i.toNat∧c=(((lS l lo.toNat i.toNat+lS v 0 i.toNat) / 2 ^ (32*i.toNat):Nat):Int)
theorem GvI.init (l v:List Int) (lo:Int):GvI l v lo 0 l 0:=by
 refine⟨Int.le_refl 0,Int.natCast_nonneg _,?_,?_⟩
 ·exact(AH _ _ _).symm
 ·simp[qV]
theorem sT {l v:List Int} {lo hi i c:Int} {M:List Int} (h:oX l v lo hi) (hI:GvI l v lo i M c) :
  M.length=l.length∧W32 M∧0≤c∧c≤1∧M.getD (lo+i).toNat 0=l.getD (lo.toNat+i.toNat) 0∧
  ∀ y:Int,0≤y→y < 4294967296→M.set (lo+i).toNat ((M.getD (lo+i).toNat 0+y+c) % 4294967296)=
   wst l lo.toNat ((lS l lo.toNat (i.toNat+1)+(lS v 0 i.toNat+2 ^ (32*i.toNat)*y.toNat)) % 2 ^ (32*(i.toNat+1))) (i.toNat+1)∧
   (M.getD (lo+i).toNat 0+y+c) / 4294967296=(((lS l lo.toNat (i.toNat+1)+(lS v 0 i.toNat+2 ^ (32*i.toNat)*y.toNat)) / 2 ^ (32*(i.toNat+1)):Nat):Int):=by
 obtain⟨lo0,loh,hl,hw,wl,wv,ln⟩:=h
 obtain⟨i0,i1,hM,hc⟩:=hI
 have hP:=Nat.two_pow_pos (32*i.toNat)
 have hlt:lo.toNat+i.toNat < l.length:=by omega
 have ht:(lo+i).toNat=lo.toNat+i.toNat:=by omega
 have hcl:=zF (lS l lo.toNat i.toNat) (lS v 0 i.toNat) _ hP
 rw[Nat.mod_eq_of_lt (uR wl _ _),Nat.mod_eq_of_lt (uR wv _ _)] at hcl
 have hx:=wl.getD (lo.toNat+i.toNat)
 have hget:M.getD (lo+i).toNat 0=l.getD (lo.toNat+i.toNat) 0:=by rw[hM,ht];exact E4 _ _ _ _ hlt
 refine⟨by rw[hM];exact E5 _ _ _ _ (by omega),by rw[hM];exact E3 wl _ _ _,by rw[hc];exact Int.natCast_nonneg _,by rw[hc];exact_mod_cast hcl,hget,fun y y0 y1=>?_⟩
 rw[hget,mY l _ _ hlt]
 generalize l.getD (lo.toNat+i.toNat) 0=x at *
 obtain⟨s1,s2⟩:=Hl (lS l lo.toNat i.toNat) (lS v 0 i.toNat) _ i.toNat _ x.toNat y.toNat rfl rfl
 have hcn:c.toNat=(lS l lo.toNat i.toNat+lS v 0 i.toNat) / 2 ^ (32*i.toNat):=by rw[hc];exact Int.toNat_natCast _
 rw[← hcn] at s1 s2
 have hc0:0≤c:=by rw[hc];exact Int.natCast_nonneg _
 rw[← s1, ← s2]
 have e:(x+y+c) % 4294967296=(((x.toNat+y.toNat+c.toNat) % 4294967296:Nat):Int):=by omega
 refine⟨?_,by omega⟩
 rw[e,hM,ht]
 exact E6 _ _ _ _ _ hlt (Nat.mod_lt _ hP) (Nat.mod_lt _ (by decide))
structure B5 (A:Alg) (V:SV) (l v:List Int) (lo hi i:Int) (M:List Int) (c:Int):Prop where
 o1:A.cmp .leq 0 lo=true
 o2:A.cmp .leq hi (A.len M)=true
 o3:A.cmp .lss (A.iadd lo i) hi=true
 o4:A.cmp .leq 0 (A.iadd lo i)=true
 o5:A.cmp .lss (A.iadd lo i) (A.len M)=true
 o6:A.cmp .leq 0 (A.get M (A.iadd lo i) 0)=true
 o7:A.cmp .lss (A.get M (A.iadd lo i) 0) 4294967296=true
 o8:A.cmp .leq 0 (A.get v i 0)=true
 o9:A.cmp .lss (A.get v i 0) 4294967296=true
 o10:A.cmp .leq 0 c=true
 o11:A.cmp .leq c 1=true
 nx:GvI l v lo (i+1) (A.set M (A.iadd lo i) (V.adds (A.get M (A.iadd lo i) 0) (A.get v i 0) c)) (V.addc (A.get M (A.iadd lo i) 0) (A.get v i 0) c)
 ad:A.bin .add .i64 i 1=i+1
 ms:((v.length:Int) - (i+1)).toNat < ((v.length:Int) - i).toNat
theorem Bg {l v:List Int} {lo hi i c:Int} {M:List Int} (h:oX l v lo hi) (hI:GvI l v lo i M c) (A:Alg) (hA:A=aA) (V:SV) (hV:V=aS) (hb:A.cmp .lss i (A.len v)=true):B5 A V l v lo hi i M c:=by
 subst hA hV
 obtain⟨g1,g2,g3,g4,g5,g6⟩:=sT h hI
 have hb:i < (v.length:Int):=of_decide_eq_true hb
 obtain⟨i0,i1,hM,hc⟩:=hI
 obtain⟨lo0,loh,hl,hw,wl,wv,ln⟩:=h
 have hm:=g2.getD (lo+i).toNat
 have hy:=wv.getD i.toNat
 obtain⟨n1,n2⟩:=g6 (v.getD i.toNat 0) hy.1 hy.2
 have hv1:=mY v 0 i.toNat (by omega)
 rw[Nat.zero_add] at hv1
 rw[← hv1] at n1 n2
 have hi1:(i+1).toNat=i.toNat+1:=by omega
 have hiL:i < 1000:=by omega
 have hml:aA.len M=(l.length:Int):=by show(M.length:Int)=_;rw[g1]
 exact {
  o1:=decide_eq_true lo0
  o2:=by rw[hml];exact decide_eq_true hl
  o3:=decide_eq_true (show lo+i < hi by omega)
  o4:=decide_eq_true (show 0≤lo+i by omega)
  o5:=by rw[hml];exact decide_eq_true (show lo+i < (l.length:Int) by omega)
  o6:=decide_eq_true hm.1
  o7:=decide_eq_true hm.2
  o8:=decide_eq_true hy.1
  o9:=decide_eq_true hy.2
  o10:=decide_eq_true g3
  o11:=decide_eq_true g4
  nx:=by
   refine⟨by omega,by omega,?_,?_⟩
   ·rw[hi1];exact n1
   ·rw[hi1];exact n2
  ad:=by show aD .add .i64 i 1=i+1;simp only[aD,IntKind.wrap_i64];omega
  ms:=by omega }
structure Fh (A:Alg) (V:SV) (l v:List Int) (lo hi:Int) (M:List Int) (c:Int):Prop where
 o1:A.cmp .leq 0 lo=true
 o2:A.cmp .leq hi (A.len M)=true
 o3:A.cmp .lss (A.iadd lo (A.len v)) hi=true
 o4:A.cmp .leq 0 (A.iadd lo (A.len v))=true
 o5:A.cmp .lss (A.iadd lo (A.len v)) (A.len M)=true
 o6:A.cmp .leq 0 (A.len v)=true
 res:A.set M (A.iadd lo (A.len v)) (A.bin .add .u32 (A.get M (A.iadd lo (A.len v)) 0) c)=V.givesL l lo hi v
theorem De {l v:List Int} {lo hi i c:Int} {M:List Int} (h:oX l v lo hi) (hI:GvI l v lo i M c) (A:Alg) (hA:A=aA) (V:SV) (hV:V=aS) (hb:A.cmp .lss i (A.len v)=false):Fh A V l v lo hi M c:=by
 subst hA hV
 have hb: ¬ i < (v.length:Int):=of_decide_eq_false hb
 have hi:i=v.length:=by have:=hI.2.1;omega
 subst hi
 obtain⟨g1,g2,g3,g4,g5,g6⟩:=sT h hI
 obtain⟨lo0,loh,hl,hw,wl,wv,ln⟩:=h
 have hm:=g2.getD (lo+(v.length:Int)).toNat
 obtain⟨n1, -⟩:=g6 0 (Int.le_refl 0) (by decide)
 rw[Int.toNat_natCast,zX] at n1
 have hml:aA.len M=(l.length:Int):=by show(M.length:Int)=_;rw[g1]
 exact {
  o1:=decide_eq_true lo0
  o2:=by rw[hml];exact decide_eq_true hl
  o3:=decide_eq_true (show lo+(v.length:Int) < hi by omega)
  o4:=decide_eq_true (show 0≤lo+(v.length:Int) by omega)
  o5:=by rw[hml];exact decide_eq_true (show lo+(v.length:Int) < (l.length:Int) by omega)
  o6:=decide_eq_true (show 0≤(v.length:Int) by omega)
  res:=by
   have e1:aA.bin .add .u32 (aA.get M (aA.iadd lo (aA.len v)) 0) c=(M.getD (lo+(v.length:Int)).toNat 0+0+c) % 4294967296:=by
    show IntKind.u32.wrap (M.getD (lo+(v.length:Int)).toNat 0+c)=_
    rw[IntKind.wrap_u32,Int.add_zero]
   rw[e1]
   refine n1.trans ?_
   have hh:v.length+1=hi.toNat - lo.toNat:=by omega
   show wst l lo.toNat _ (v.length+1)=wY l lo.toNat hi.toNat (iM ((wZ l lo.toNat hi.toNat+aM v) % 2 ^ (32*(v.length+1))) (v.length+1))
   rw[hh,AG _ _ _ _ (by omega),uS]
   simp only[Int.toNat_zero,Nat.mul_zero,Nat.add_zero] }
def CU (A:Alg) (V:SV):List CV→List Blk→Option LW
 | [.s (.hw 0 1 lo hi), .s (.hs 1)],[.vec true (.int .u32) l, .vec false (.int .u32) v]=>some ⟨[A.cmp .leq 0 lo,A.cmp .leq lo hi,A.cmp .leq hi (A.len l),A.cmp .eql (A.isub hi lo) (A.iadd (A.len v) 1),A.all32 l,A.all32 v,A.cmp .leq (A.len l) 1000], .t [],[],[.vec true (.int .u32) (V.givesL l lo hi v)]⟩
 | _,_=>none
theorem Gf:aJ Tryz.prog 221 (cM [.sw (.int .u32), .s (.int .u32)] aA (CU aA aS)):=by
 refine cT (un:=⟨false,none⟩) tok LK aL (fn:=Tryz.f221) ?_
 intro w Wr args bs r hg ho hWr A L k hA hL hk
 obtain⟨S,hS⟩:=exE aV
 obtain⟨V,hV⟩:=exE aS
 try rw[← hS]
 try rw[← hV]
 try rw[← hA]
 unfold CU at hg
 split at hg <;> cases hg
 rename_i lo hi l v
 have hw:=oX.of ho
 clear ho
 have init:=GvI.init l v lo
 cbv
 refine hL _ _ _ (aQ (un:=⟨false,none⟩) tok LK aL (fun p:Int×List Int×Int=>⟨[(9,⟨[], .c (.s (.int .i64 p.1))⟩),(4,⟨[], .c (.s (.int .u32 p.2.2))⟩),(7,⟨[], .c (.s (.hs 1))⟩),(8,⟨[], .c (.s (.int .i64 (aA.len v)))⟩),(0,⟨[], .c (.s (.hw 0 1 lo hi))⟩),(1,⟨[], .c (.s (.hs 1))⟩)],[(0, .vec true (.int .u32) p.2.1),(1, .vec false (.int .u32) v)],2⟩)
  (fun p=>GvI l v lo p.1 p.2.1 p.2.2) (fun p=>((v.length:Int) - p.1).toNat) (0,l,0) init ?_ (fun _ i hi=>by have:=hWr i hi;simp at this ⊢;omega) ?_)
 ·exact⟨⟨⟨rfl,rfl,fun _=>rfl⟩,⟨rfl,rfl,fun _=>rfl⟩,⟨rfl,rfl,fun _=>rfl⟩,⟨rfl,rfl,leI (by subst hA;rfl)⟩,⟨rfl,rfl,fun _=>rfl⟩,⟨rfl,rfl,fun _=>rfl⟩,trivial⟩,⟨aF rfl,aF rfl,trivial⟩,rfl,rfl⟩
 clear init
 rintro⟨i,M,c⟩ hI A2 L2 k2 hA2 hL2 hnext hexit hret
 have o0:A2.cmp .leq 0 i=true:=by subst hA2;exact decide_eq_true hI.1
 have st:=Bg hw hI A2 hA2 V hV
 have en:=De hw hI A2 hA2 V hV
 rw[← hA2, ← hS, ← hV]
 cbv
 repeat' with_reducible first | (intro hb;cbv) | refine UM ?_ ?_
 all_goals first | exact o0 | exact hb | exact(st hb).o1 | exact(st hb).o2 | exact(st hb).o3 | exact(st hb).o4 | exact(st hb).o5 | exact(st hb).o6 | exact(st hb).o7 | exact(st hb).o8 | exact(st hb).o9 | exact(st hb).o10 | exact(st hb).o11 | skip
 ·exact hnext _ (i+1,_,_) (st hb).nx (st hb).ms ⟨⟨⟨rfl,rfl,leI (st hb).ad⟩,⟨rfl,rfl,fun _=>rfl⟩,⟨rfl,rfl,fun _=>rfl⟩,⟨rfl,rfl,leI (by subst hA2;rfl)⟩,⟨rfl,rfl,fun _=>rfl⟩,⟨rfl,rfl,fun _=>rfl⟩,trivial⟩,⟨leV rfl,aF rfl,trivial⟩,rfl,rfl⟩
 ·apply hexit
  have en:=en hb
  have eA:A2=A:=hA2.trans hA.symm
  rw[eA] at en
  clear hexit hnext hret st
  cbv
  repeat' with_reducible first | (intro hb;cbv) | refine UM ?_ ?_
  all_goals first | exact en.o1 | exact en.o2 | exact en.o3 | exact en.o4 | exact en.o5 | exact en.o6 | skip
  refine hk _ _ (iW.one (t:=0) rfl (fun ρ=>rfl) rfl rfl rfl (leV ?_))
  subst hV
  exact en.res
def R3 (A:Alg) (S:SW) (V:SV):List (Nat×bU):=(221,cM [.sw (.int .u32), .s (.int .u32)] A (CU A V)) :: ((tN9 A S V))
theorem EB:COK Tryz.prog (aN (R3 aA aV aS)):=aB Gf (LK)
def TkP (l:List Int) (lo S P i:Nat) (M:List Int) (cu bo:Int):Prop:=
 ∃ D:Nat,M=wst l lo D i∧D < 2 ^ (32*i)∧(D:Int)=S - (P % 2 ^ (32*i):Nat)+(2 ^ (32*i):Nat)*bo∧cu=((P / 2 ^ (32*i):Nat):Int)∧0≤bo∧bo≤1
def TkI (l v:List Int) (lo q i:Int) (M:List Int) (cu bo:Int):Prop:=
 0≤i∧i≤v.length∧TkP l lo.toNat (lS l lo.toNat i.toNat) (q.toNat*lS v 0 i.toNat) i.toNat M cu bo
theorem TkI.init (l v:List Int) (lo q:Int):TkI l v lo q 0 l 0 0:=by
 refine⟨Int.le_refl 0,Int.natCast_nonneg _,0,(AH _ _ _).symm,Nat.two_pow_pos _,?_,?_,by decide,by decide⟩
 ·simp[qV]
 ·simp[qV]
theorem tK {l v:List Int} {lo hi i q cu bo:Int} {M:List Int} (h:oX l v lo hi) (hq0:0≤q) (hq1:q≤4294967295) (hI:TkI l v lo q i M cu bo) :
  M.length=l.length∧W32 M∧0≤bo∧bo≤1∧0≤cu∧cu≤q∧
  ∀ y w s:Int,0≤y→y < 4294967296→w=q*y+cu→s=M.getD (lo+i).toNat 0 - w % 4294967296 - bo→0≤w∧w < 18446744073709551616∧
   TkP l lo.toNat (lS l lo.toNat (i.toNat+1)) (q.toNat*(lS v 0 i.toNat+2 ^ (32*i.toNat)*y.toNat)) (i.toNat+1) (M.set (lo+i).toNat (s % 4294967296)) (w / 4294967296) (if s < 0 then 1 else 0):=by
 obtain⟨lo0,loh,hl,hw,wl,wv,ln⟩:=h
 obtain⟨i0,i1,D,hM,hD,hDe,hcu,hb0,hb1⟩:=hI
 have hP:=Nat.two_pow_pos (32*i.toNat)
 have hlt:lo.toNat+i.toNat < l.length:=by omega
 have ht:(lo+i).toNat=lo.toNat+i.toNat:=by omega
 have hx:=wl.getD (lo.toNat+i.toNat)
 have hget:M.getD (lo+i).toNat 0=l.getD (lo.toNat+i.toNat) 0:=by rw[hM,ht];exact E4 _ _ _ _ hlt
 have hc0:0≤cu:=by rw[hcu];exact Int.natCast_nonneg _
 have hcq:cu≤q:=by
  have h1:q.toNat*lS v 0 i.toNat / 2 ^ (32*i.toNat)≤q.toNat:=by
   have:=Nat.mul_le_mul_left q.toNat (Nat.le_of_lt (uR wv 0 i.toNat))
   exact Nat.div_le_of_le_mul (by rw[Nat.mul_comm (2 ^ (32*i.toNat))];exact this)
  rw[hcu];omega
 refine⟨by rw[hM];exact E5 _ _ _ _ (by omega),by rw[hM];exact E3 wl _ _ _,hb0,hb1,hc0,hcq,fun y w s y0 y1 hw' hs=>?_⟩
 rw[hget] at hs
 rw[mY l _ _ hlt]
 generalize l.getD (lo.toNat+i.toNat) 0=x at *
 have hcn:cu.toNat=q.toNat*lS v 0 i.toNat / 2 ^ (32*i.toNat):=by rw[hcu];exact Int.toNat_natCast _
 have ewn:w=((q.toNat*y.toNat+cu.toNat:Nat):Int):=by
  rw[hw',Int.natCast_add,Int.natCast_mul,Int.toNat_of_nonneg hq0,Int.toNat_of_nonneg y0,Int.toNat_of_nonneg hc0]
 have hwl:w < 18446744073709551616:=by
  have h1:q*y≤q*4294967295:=Int.mul_le_mul_of_nonneg_left (by omega) hq0
  omega
 have es:s=(x.toNat:Int) - ((q.toNat*y.toNat+cu.toNat) % 4294967296:Nat) - bo:=by rw[hs,ewn];omega
 obtain⟨d1,d2,d3⟩:=Fx (lS l lo.toNat i.toNat) (q.toNat*lS v 0 i.toNat) D i.toNat cu.toNat x.toNat y.toNat q.toNat bo hb0 hb1 (by omega) hD hDe hcn s es
 refine⟨by rw[ewn];exact Int.natCast_nonneg _,hwl,D+2 ^ (32*i.toNat)*(s % 4294967296).toNat,?_,d2,?_,?_,by split <;> decide,by split <;> decide⟩
 ·rw[hM,ht]
  have:=E6 l lo.toNat D i.toNat (s % 4294967296).toNat hlt hD (by omega)
  rw[← this]
  congr 1
  omega
 ·rw[Nat.mul_add, ← Nat.mul_assoc,Nat.mul_comm q.toNat (2 ^ (32*i.toNat)),Nat.mul_assoc];exact d1
 ·rw[Nat.mul_add, ← Nat.mul_assoc,Nat.mul_comm q.toNat (2 ^ (32*i.toNat)),Nat.mul_assoc, ← d3,ewn]
  omega
structure B6 (A:Alg) (V:SV) (l v:List Int) (lo hi q i:Int) (M:List Int) (cu bo:Int):Prop where
 o1:A.cmp .leq 0 lo=true
 o2:A.cmp .leq hi (A.len M)=true
 o3:A.cmp .lss (A.iadd lo i) hi=true
 o4:A.cmp .leq 0 (A.iadd lo i)=true
 o5:A.cmp .lss (A.iadd lo i) (A.len M)=true
 o6:A.cmp .leq 0 (A.get M (A.iadd lo i) 0)=true
 o7:A.cmp .lss (A.get M (A.iadd lo i) 0) 4294967296=true
 o8:A.cmp .leq 0 (A.wrap .u32 (A.bin .and .u64 (A.bin .add .u64 (A.bin .mul .u64 q (A.wrap .u64 (A.get v i 0))) cu) 4294967295))=true
 o9:A.cmp .lss (A.wrap .u32 (A.bin .and .u64 (A.bin .add .u64 (A.bin .mul .u64 q (A.wrap .u64 (A.get v i 0))) cu) 4294967295)) 4294967296=true
 o10:A.cmp .leq 0 bo=true
 o11:A.cmp .leq bo 1=true
 nx:TkI l v lo q (i+1) (A.set M (A.iadd lo i) (V.subs (A.get M (A.iadd lo i) 0) (A.wrap .u32 (A.bin .and .u64 (A.bin .add .u64 (A.bin .mul .u64 q (A.wrap .u64 (A.get v i 0))) cu) 4294967295)) bo)) (A.bin .shr .u64 (A.bin .add .u64 (A.bin .mul .u64 q (A.wrap .u64 (A.get v i 0))) cu) 32) (V.subc (A.get M (A.iadd lo i) 0) (A.wrap .u32 (A.bin .and .u64 (A.bin .add .u64 (A.bin .mul .u64 q (A.wrap .u64 (A.get v i 0))) cu) 4294967295)) bo)
 ad:A.bin .add .i64 i 1=i+1
 ms:((v.length:Int) - (i+1)).toNat < ((v.length:Int) - i).toNat
theorem BO {l v:List Int} {lo hi i q cu bo:Int} {M:List Int} (h:oX l v lo hi) (hq0:0≤q) (hq1:q≤4294967295) (hI:TkI l v lo q i M cu bo) (A:Alg) (hA:A=aA) (V:SV) (hV:V=aS) (hb:A.cmp .lss i (A.len v)=true):B6 A V l v lo hi q i M cu bo:=by
 subst hA hV
 obtain⟨g1,g2,g3,g4,g5,g6,g7⟩:=tK h hq0 hq1 hI
 have hb:i < (v.length:Int):=of_decide_eq_true hb
 obtain⟨i0,i1, -⟩:=hI
 obtain⟨lo0,loh,hl,hw,wl,wv,ln⟩:=h
 have hm:=g2.getD (lo+i).toNat
 have hy:=wv.getD i.toNat
 obtain⟨n1,n2,n3⟩:=g7 (v.getD i.toNat 0) _ _ hy.1 hy.2 rfl rfl
 have hv1:=mY v 0 i.toNat (by omega)
 rw[Nat.zero_add] at hv1
 rw[← hv1] at n3
 have hi1:(i+1).toNat=i.toNat+1:=by omega
 have hml:aA.len M=(l.length:Int):=by show(M.length:Int)=_;rw[g1]
 have ew:aA.bin .add .u64 (aA.bin .mul .u64 q (aA.wrap .u64 (aA.get v i 0))) cu=q*v.getD i.toNat 0+cu:=by
  have hm0:0≤q*v.getD i.toNat 0:=Int.mul_nonneg hq0 hy.1
  show IntKind.u64.wrap (IntKind.u64.wrap (q*IntKind.u64.wrap (v.getD i.toNat 0))+cu)=_
  rw[eR _ hy.1 (by omega),eR _ hm0 (by omega),eR _ n1 n2]
 have el:aA.wrap .u32 (aA.bin .and .u64 (aA.bin .add .u64 (aA.bin .mul .u64 q (aA.wrap .u64 (aA.get v i 0))) cu) 4294967295)=(q*v.getD i.toNat 0+cu) % 4294967296:=by
  rw[ew];exact pL _ n1 n2
 have eh:aA.bin .shr .u64 (aA.bin .add .u64 (aA.bin .mul .u64 q (aA.wrap .u64 (aA.get v i 0))) cu) 32=(q*v.getD i.toNat 0+cu) / 4294967296:=by
  rw[ew];exact gK _ n1
 exact {
  o1:=decide_eq_true lo0
  o2:=by rw[hml];exact decide_eq_true hl
  o3:=decide_eq_true (show lo+i < hi by omega)
  o4:=decide_eq_true (show 0≤lo+i by omega)
  o5:=by rw[hml];exact decide_eq_true (show lo+i < (l.length:Int) by omega)
  o6:=decide_eq_true hm.1
  o7:=decide_eq_true hm.2
  o8:=by rw[el];exact decide_eq_true (show 0≤(q*v.getD i.toNat 0+cu) % 4294967296 by omega)
  o9:=by rw[el];exact decide_eq_true (show(q*v.getD i.toNat 0+cu) % 4294967296 < 4294967296 by omega)
  o10:=decide_eq_true g3
  o11:=decide_eq_true g4
  nx:=by
   rw[el,eh]
   refine⟨by omega,by omega,?_⟩
   rw[hi1];exact n3
  ad:=by show aD .add .i64 i 1=i+1;simp only[aD,IntKind.wrap_i64];omega
  ms:=by omega }
structure Fk (A:Alg) (V:SV) (l v:List Int) (lo hi q:Int) (M:List Int) (cu bo:Int):Prop where
 o1:A.cmp .leq 0 lo=true
 o2:A.cmp .leq hi (A.len M)=true
 o3:A.cmp .lss (A.iadd lo (A.len v)) hi=true
 o4:A.cmp .leq 0 (A.iadd lo (A.len v))=true
 o5:A.cmp .lss (A.iadd lo (A.len v)) (A.len M)=true
 o6:A.cmp .leq 0 (A.len v)=true
 o7:A.cmp .leq 0 (A.get M (A.iadd lo (A.len v)) 0)=true
 o8:A.cmp .lss (A.get M (A.iadd lo (A.len v)) 0) 4294967296=true
 o9:A.cmp .leq 0 (A.wrap .u32 cu)=true
 o10:A.cmp .lss (A.wrap .u32 cu) 4294967296=true
 o11:A.cmp .leq 0 bo=true
 o12:A.cmp .leq bo 1=true
 res:A.set M (A.iadd lo (A.len v)) (V.subs (A.get M (A.iadd lo (A.len v)) 0) (A.wrap .u32 cu) bo)=V.takesL l lo hi v q
 resB:A.cmp .eql (V.subc (A.get M (A.iadd lo (A.len v)) 0) (A.wrap .u32 cu) bo) 0=V.takesB l lo hi v q
theorem EC {l v:List Int} {lo hi i q cu bo:Int} {M:List Int} (h:oX l v lo hi) (hq0:0≤q) (hq1:q≤4294967295) (hI:TkI l v lo q i M cu bo) (A:Alg) (hA:A=aA) (V:SV) (hV:V=aS) (hb:A.cmp .lss i (A.len v)=false):Fk A V l v lo hi q M cu bo:=by
 subst hA hV
 have hb: ¬ i < (v.length:Int):=of_decide_eq_false hb
 have hi:i=v.length:=by have:=hI.2.1;omega
 subst hi
 obtain⟨g1,g2,g3,g4,g5,g6,g7⟩:=tK h hq0 hq1 hI
 obtain⟨lo0,loh,hl,hw,wl,wv,ln⟩:=h
 have hm:=g2.getD (lo+(v.length:Int)).toNat
 obtain⟨-, -,n3⟩:=g7 0 cu _ (Int.le_refl 0) (by decide) (by rw[Int.mul_zero,Int.zero_add]) rfl
 rw[Int.toNat_natCast,zX] at n3
 simp only[Int.toNat_zero,Nat.mul_zero,Nat.add_zero] at n3
 have hml:aA.len M=(l.length:Int):=by show(M.length:Int)=_;rw[g1]
 have el:aA.wrap .u32 cu=cu % 4294967296:=IntKind.wrap_u32 cu
 have hh:v.length+1=hi.toNat - lo.toNat:=by omega
 have hWlt:wZ l lo.toNat hi.toNat < 2 ^ (32*(v.length+1)):=by rw[hh, ← uS];exact uR wl _ _
 have hPlt:q.toNat*aM v < 2 ^ (32*(v.length+1)):=by
  have h1:=dU wv
  rw[cV]
  calc q.toNat*aM v≤4294967295*aM v:=Nat.mul_le_mul_right _ (by omega)
   _ < 2 ^ (32*v.length)*2 ^ 32:=by generalize 2 ^ (32*v.length)=P at h1 ⊢;omega
 obtain⟨D,hM',hD,hDe, -,b0,b1⟩:=n3
 rw[hh] at hDe
 rw[uS, ← hh,Nat.mod_eq_of_lt hPlt] at hDe
 exact {
  o1:=decide_eq_true lo0
  o2:=by rw[hml];exact decide_eq_true hl
  o3:=decide_eq_true (show lo+(v.length:Int) < hi by omega)
  o4:=decide_eq_true (show 0≤lo+(v.length:Int) by omega)
  o5:=by rw[hml];exact decide_eq_true (show lo+(v.length:Int) < (l.length:Int) by omega)
  o6:=decide_eq_true (show 0≤(v.length:Int) by omega)
  o7:=decide_eq_true hm.1
  o8:=decide_eq_true hm.2
  o9:=by rw[el];exact decide_eq_true (show 0≤cu % 4294967296 by omega)
  o10:=by rw[el];exact decide_eq_true (show cu % 4294967296 < 4294967296 by omega)
  o11:=decide_eq_true g3
  o12:=decide_eq_true g4
  res:=by
   rw[el]
   refine hM'.trans ?_
   show wst l lo.toNat D (v.length+1)=wY l lo.toNat hi.toNat (iM ((2 ^ (32*(v.length+1))*2 ^ 64+wZ l lo.toNat hi.toNat - q.toNat*aM v) % 2 ^ (32*(v.length+1))) (v.length+1))
   rw[hh,AG _ _ _ _ (by omega), ← hh]
   congr 2
   generalize (if M.getD (lo+(v.length:Int)).toNat 0 - cu % 4294967296 - bo < 0 then(1:Int) else 0)=z at *
   generalize wZ l lo.toNat hi.toNat=W at *
   generalize q.toNat*aM v=P at *
   generalize (2:Nat) ^ (32*(v.length+1))=B at *
   have hz:z=0∨z=1:=by omega
   rcases hz with rfl | rfl
   ·rw[show B*2 ^ 64+W - P=D+B*2 ^ 64 by omega,Nat.add_mul_mod_self_left,Nat.mod_eq_of_lt hD]
   ·rw[show B*2 ^ 64+W - P=D+B*(2 ^ 64 - 1) by omega,Nat.add_mul_mod_self_left,Nat.mod_eq_of_lt hD]
  resB:=by
   rw[el]
   show((if M.getD (lo+(v.length:Int)).toNat 0 - cu % 4294967296 - bo < 0 then(1:Int) else 0) == 0)=decide (q.toNat*aM v≤wZ l lo.toNat hi.toNat)
   generalize (if M.getD (lo+(v.length:Int)).toNat 0 - cu % 4294967296 - bo < 0 then(1:Int) else 0)=z at *
   generalize wZ l lo.toNat hi.toNat=W at *
   generalize q.toNat*aM v=P at *
   generalize (2:Nat) ^ (32*(v.length+1))=B at *
   have hz:z=0∨z=1:=by omega
   rcases hz with rfl | rfl
   ·have:P≤W:=by omega
    simp[this]
   ·have: ¬ P≤W:=by omega
    simp[this] }
def C8 (A:Alg) (V:SV):List CV→List Blk→Option LW
 | [.s (.hw 0 1 lo hi), .s (.hs 1), .s (.int .u64 q)],[.vec true (.int .u32) l, .vec false (.int .u32) v]=>some ⟨[A.cmp .leq 0 lo,A.cmp .leq lo hi,A.cmp .leq hi (A.len l),A.cmp .eql (A.isub hi lo) (A.iadd (A.len v) 1),A.all32 l,A.all32 v,A.cmp .leq (A.len l) 1000,A.cmp .leq 0 q,A.cmp .leq q 4294967295], .c (.s (.bool (V.takesB l lo hi v q))),[],[.vec true (.int .u32) (V.takesL l lo hi v q)]⟩
 | _,_=>none
theorem Gy:aJ Tryz.prog 220 (cM [.sw (.int .u32), .s (.int .u32), .v] aA (C8 aA aS)):=by
 refine cT (un:=⟨false,none⟩) tok EB aL (fn:=Tryz.f220) ?_
 intro w Wr args bs r hg ho hWr A L k hA hL hk
 obtain⟨S,hS⟩:=exE aV
 obtain⟨V,hV⟩:=exE aS
 try rw[← hS]
 try rw[← hV]
 try rw[← hA]
 unfold C8 at hg
 split at hg <;> cases hg
 rename_i lo hi q l v
 have hw:=oX.of ho
 have hr:=oX.rest ho
 have hq0:0≤q:=of_decide_eq_true (aG hr).1
 have hq1:q≤4294967295:=of_decide_eq_true (aG (aG hr).2).1
 clear hr
 clear ho
 have init:=TkI.init l v lo q
 cbv
 refine hL _ _ _ (aQ (un:=⟨false,none⟩) tok EB aL (fun p:Int×List Int×Int×Int=>⟨[(14,⟨[], .c (.s (.int .i64 p.1))⟩),(7,⟨[], .c (.s (.int .u64 p.2.2.1))⟩),(8,⟨[], .c (.s (.int .u32 p.2.2.2))⟩),(12,⟨[], .c (.s (.hs 1))⟩),(13,⟨[], .c (.s (.int .i64 (aA.len v)))⟩),(0,⟨[], .c (.s (.hw 0 1 lo hi))⟩),(1,⟨[], .c (.s (.hs 1))⟩),(2,⟨[], .c (.s (.int .u64 q))⟩)],[(0, .vec true (.int .u32) p.2.1),(1, .vec false (.int .u32) v)],2⟩)
  (fun p=>TkI l v lo q p.1 p.2.1 p.2.2.1 p.2.2.2) (fun p=>((v.length:Int) - p.1).toNat) (0,l,0,0) init ?_ (fun _ i hi=>by have:=hWr i hi;simp at this ⊢;omega) ?_)
 ·exact⟨⟨⟨rfl,rfl,fun _=>rfl⟩,⟨rfl,rfl,fun _=>rfl⟩,⟨rfl,rfl,fun _=>rfl⟩,⟨rfl,rfl,fun _=>rfl⟩,⟨rfl,rfl,leI (by subst hA;rfl)⟩,⟨rfl,rfl,fun _=>rfl⟩,⟨rfl,rfl,fun _=>rfl⟩,⟨rfl,rfl,fun _=>rfl⟩,trivial⟩,⟨aF rfl,aF rfl,trivial⟩,rfl,rfl⟩
 clear init
 rintro⟨i,M,cu,bo⟩ hI A2 L2 k2 hA2 hL2 hnext hexit hret
 have o0:A2.cmp .leq 0 i=true:=by subst hA2;exact decide_eq_true hI.1
 have st:=BO hw hq0 hq1 hI A2 hA2 V hV
 have en:=EC hw hq0 hq1 hI A2 hA2 V hV
 rw[← hA2, ← hS, ← hV]
 cbv
 repeat' with_reducible first | (intro hb;cbv) | refine UM ?_ ?_
 all_goals first | exact o0 | exact hb | exact(st hb).o1 | exact(st hb).o2 | exact(st hb).o3 | exact(st hb).o4 | exact(st hb).o5 | exact(st hb).o6 | exact(st hb).o7 | exact(st hb).o8 | exact(st hb).o9 | exact(st hb).o10 | exact(st hb).o11 | skip
 ·exact hnext _ (i+1,_,_,_) (st hb).nx (st hb).ms ⟨⟨⟨rfl,rfl,leI (st hb).ad⟩,⟨rfl,rfl,fun _=>rfl⟩,⟨rfl,rfl,fun _=>rfl⟩,⟨rfl,rfl,fun _=>rfl⟩,⟨rfl,rfl,leI (by subst hA2;rfl)⟩,⟨rfl,rfl,fun _=>rfl⟩,⟨rfl,rfl,fun _=>rfl⟩,⟨rfl,rfl,fun _=>rfl⟩,trivial⟩,⟨leV rfl,aF rfl,trivial⟩,rfl,rfl⟩
 ·apply hexit
  have en:=en hb
  have eA:A2=A:=hA2.trans hA.symm
  rw[eA] at en
  clear hexit hnext hret st
  cbv
  repeat' with_reducible first | (intro hb;cbv) | refine UM ?_ ?_
  all_goals first | exact en.o1 | exact en.o2 | exact en.o3 | exact en.o4 | exact en.o5 | exact en.o6 | exact en.o7 | exact en.o8 | exact en.o9 | exact en.o10 | exact en.o11 | exact en.o12 | skip
  refine hk _ _ (iW.one (t:=0) rfl (fun ρ=>?_) rfl rfl rfl (leV ?_))
  ·subst hV
   exact yQ en.resB
  ·subst hV
   exact en.res
def R4 (A:Alg) (S:SW) (V:SV):List (Nat×bU):=(220,cM [.sw (.int .u32), .s (.int .u32), .v] A (C8 A V)) :: ((R3 A S V))
theorem Ax:COK Tryz.prog (aN (R4 aA aV aS)):=aB Gy (EB)
end Go.Eng
