
import Derived.Test.YtbfknjpggfkgjaaGreatEngMW
set_option linter.all false
set_option exponentiation.threshold 3000
set_option maxRecDepth 100000
namespace Go.Eng
def bA (d:Dg):Nat:=if d.n=0 then 0 else d.n.log2 / 32+1
structure SW where
 size:Dg→Int
 dcmp:Dg→Dg→Int
 told:Bool→Dg→Wd
 isW:Wd→Bool
 below:Wd→Bool
 from64:Int→Wd
 bits:Wd→Int
 neg:Wd→Wd
 cmp:Wd→Wd→Int
 len32:Int→Int
 one:Wd→Bool
 small:Wd→Bool
 gcd:Wd→Wd→Wd
def bP (n:Nat):Nat:=if n=0 then 0 else n.log2+1
def bX (n:Nat):Dg:=⟨n % 2 ^ 1024,Kb _ 1024⟩
def tld (b:Bool) (d:Dg):Wd:=⟨b&&decide (d.n≠0),d⟩
def aU (w:Wd):Bool:=w.neg&&decide (w.d.n≠0)
def sgn (a b:Int):Int:=if a < b then -1 else if b < a then 1 else 0
def aK (w:Wd):Int:=if w.neg then -(w.d.n:Int) else w.d.n
theorem lR {a b m:Nat} (ha:a < m) (hb:b < m):Nat.gcd a b < m:=by
 by_cases h:a=0
 ·subst h;simpa using hb
 ·exact Nat.lt_of_le_of_lt (Nat.gcd_le_left b (Nat.pos_of_ne_zero h)) ha
def aV:SW where
 size d:=bA d
 dcmp a b:=sgn a.n b.n
 told:=tld
 isW w:= !w.neg||decide (w.d.n≠0)
 below:=aU
 from64 n:=tld (decide (n < 0)) (bX n.natAbs)
 bits w:=((bP w.d.n:Nat):Int)
 neg w:=tld (!aU w) w.d
 cmp a b:=sgn (aK a) (aK b)
 len32 n:=((bP n.toNat:Nat):Int)
 one w:=decide (aK w=1)
 small w:=decide (w.d.n < 2 ^ 64)
 gcd a b:=⟨false,⟨Nat.gcd a.d.n b.d.n,lR a.d.lt b.d.lt⟩⟩
theorem D6:(2:Nat) ^ 1024=2 ^ (32*(32:Int).toNat):=by rw[show 32*(32:Int).toNat=1024 from rfl]
theorem Fw {d:Dg} {n:Nat} (h1:d.n < 2 ^ (32*n)) (h2:n=0∨2 ^ (32*(n - 1))≤d.n):bA d=n:=by
 unfold bA
 rcases h2 with rfl | h2
 ·simp at h1;simp[h1]
 ·have:=Nat.two_pow_pos (32*(n - 1))
  by_cases hn:n=0
  ·subst hn;simp at h1;omega
  ·rw[if_neg (by omega)]
   have h3:d.n.log2 < 32*n:=(Nat.log2_lt (by omega)).2 h1
   have h4:32*(n - 1)≤d.n.log2:=(Nat.le_log2 (by omega)).2 h2
   omega
theorem Dg.ext' {a b:Dg} (h:a.n=b.n):a=b:=by cases a;cases b;cases h;rfl
theorem v7 {n a b:Nat} (h:n < 2 ^ a) (hab:a≤b):n < 2 ^ b:=Nat.lt_of_lt_of_le h (Nat.pow_le_pow_right (by decide) hab)
theorem zZ (n:Nat) (h:n < 2 ^ 64):(bX n).n=n:=by
 have h':=v7 h (show 64≤1024 from by decide)
 exact Nat.mod_eq_of_lt h'
theorem atN (t:Int) (h0:0≤t) (h1:t < 18446744073709551616) :
  aA.setD (aA.setD Dg.zero 0 (IntKind.u32.wrap (aD .and .u64 t 4294967295))) 1 (IntKind.u32.wrap (aD .shr .u64 t 32))=bX t.toNat:=by
 apply Dg.ext'
 rw[zZ _ (by omega),EX t h0 h1,gK t h0]
 rw[IntKind.wrap_u32,IntKind.wrap_u32]
 show((Dg.zero.set 0 _).set 1 _).n=_
 rw[wQ _ _ (by omega) (by omega)]
 omega
theorem tY (x y:Wd):sgn (aK x) (aK y)=
  if aU x then(if aU y then sgn y.d.n x.d.n else -1) else(if aU y then 1 else sgn x.d.n y.d.n):=by
 obtain⟨nx,dx⟩:=x
 obtain⟨ny,dy⟩:=y
 simp only[aK,aU,sgn]
 cases nx <;> cases ny <;> simp <;> (repeat' split) <;> omega
theorem qT (n k:Nat) (h:2 ^ k≤n):bP n=k+bP (n / 2 ^ k):=by
 have hk:=Nat.two_pow_pos k
 have hd:n / 2 ^ k≠0:=by
  have:=Nat.div_le_div_right (c:=2 ^ k) h
  rw[Nat.div_self hk] at this
  omega
 unfold bP
 rw[if_neg (by omega),if_neg hd]
 have h1:=Nat.log2_self_le hd
 have h2:= @Nat.lt_log2_self (n / 2 ^ k)
 have:n.log2=k+(n / 2 ^ k).log2:=by
  rw[Nat.log2_eq_iff (by omega)]
  constructor
  ·rw[Nat.pow_add,Nat.mul_comm];exact Nat.le_trans (Nat.mul_le_mul_right _ h1) (Nat.div_mul_le_self _ _)
  ·rw[show k+(n / 2 ^ k).log2+1=(n / 2 ^ k).log2+1+k from by omega,Nat.pow_add]
   exact(Nat.div_lt_iff_lt_mul hk).1 h2
 omega
def B0:ByteArray:=⟨⟨[0,1,2,2,3,3,3,3,4,4,4,4,4,4,4,4,5,5,5,5,5,5,5,5,5,5,5,5,5,5,5,5,6,6,6,6,6,6,6,6,6,6,6,6,6,6,6,6,6,6,6,6,6,6,6,6,6,6,6,6,6,6,6,6,7,7,7,7,7,7,7,7,7,7,7,7,7,7,7,7,7,7,7,7,7,7,7,7,7,7,7,7,7,7,7,7,7,7,7,7,7,7,7,7,7,7,7,7,7,7,7,7,7,7,7,7,7,7,7,7,7,7,7,7,7,7,7,7,8,8,8,8,8,8,8,8,8,8,8,8,8,8,8,8,8,8,8,8,8,8,8,8,8,8,8,8,8,8,8,8,8,8,8,8,8,8,8,8,8,8,8,8,8,8,8,8,8,8,8,8,8,8,8,8,8,8,8,8,8,8,8,8,8,8,8,8,8,8,8,8,8,8,8,8,8,8,8,8,8,8,8,8,8,8,8,8,8,8,8,8,8,8,8,8,8,8,8,8,8,8,8,8,8,8,8,8,8,8,8,8,8,8,8,8,8,8,8,8,8,8,8,8,8,8,8,8]⟩⟩
theorem mX:aA.slen B0=256:=rfl
theorem FP:(List.range 256).all (fun y=>match B0[y]? with
  | some b=>b.toNat == bP y
  | none=>false)=true:=by decide +kernel
theorem JZ (y:Int) (h0:0≤y) (h1:y < 256):aA.sb B0 y=bP y.toNat:=by
 have:=List.all_eq_true.1 FP y.toNat (by simp;omega)
 simp only[aA]
 split at this
 ·rename_i b hb;rw[hb];simp only[beq_iff_eq] at this;simp only[this]
 ·cases this
theorem i9 (d:Dg) (h:d.n≠0):1≤bA d∧bA d≤32∧d.n < 2 ^ (32*bA d)∧2 ^ (32*(bA d - 1))≤d.n:=by
 have h1:d.n.log2 < 1024:=(Nat.log2_lt h).2 d.lt
 have h2:=Nat.log2_self_le h
 have h3:= @Nat.lt_log2_self d.n
 unfold bA
 rw[if_neg h]
 refine⟨by omega,by omega,v7 h3 (by omega),Nat.le_trans (Nat.pow_le_pow_right (by decide) (by omega)) h2⟩
theorem Cf (d:Dg) (h:d.n≠0):bP d.n=32*(bA d - 1)+bP (d.dig (bA d - 1)):=by
 obtain⟨h1,h2,h3,h4⟩:=i9 d h
 rw[qT d.n _ h4]
 congr 2
 unfold Dg.dig
 rw[Nat.mod_eq_of_lt]
 rw[Nat.div_lt_iff_lt_mul (Nat.two_pow_pos _), ← Nat.pow_add]
 rwa [show 32+32*(bA d - 1)=32*bA d from by omega]
theorem iE (n k:Nat) (h:n < 2 ^ k):bP n≤k:=by
 unfold bP
 split
 ·omega
 ·rename_i hn
  have:=(Nat.log2_lt hn).2 h
  omega
theorem Ie (d:Dg) (h:d.n < 2 ^ 64):aD .or .u64 (aD .shl .u64 (IntKind.u64.wrap ((d.dig 1:Nat):Int)) 32) (IntKind.u64.wrap ((d.dig 0:Nat):Int))=((d.n:Nat):Int):=by
 have e0:d.dig 0=d.n % 2 ^ 32:=by simp[Dg.dig]
 have e1:d.dig 1=d.n / 2 ^ 32:=by
  show d.n / 2 ^ (32*1) % 2 ^ 32=_
  rw[show 32*1=32 from rfl];omega
 have hs:aD .shl .u64 (IntKind.u64.wrap ((d.dig 1:Nat):Int)) 32=((2 ^ 32*(d.n / 2 ^ 32):Nat):Int):=by
  show IntKind.u64.wrap (IntKind.u64.wrap ((d.dig 1:Nat):Int)*2 ^ min (32:Int).toNat 64)=_
  rw[show min (32:Int).toNat 64=32 from rfl,cX,cX,e1]
  omega
 have hl:IntKind.u64.wrap ((d.dig 0:Nat):Int)=((d.n % 2 ^ 32:Nat):Int):=by rw[cX,e0];omega
 rw[hs,hl,Is _ _ (by omega) (by omega) (by omega) (by omega),Int.toNat_natCast,Int.toNat_natCast]
 rw[← Nat.two_pow_add_eq_or_of_lt (by omega)]
 omega
def f8 (d e:Dg) (n:Nat):Prop:=d.n / 2 ^ (32*n)=e.n / 2 ^ (32*n)
theorem wI (d e:Dg):f8 d e (31+1:Int).toNat:=by
 unfold f8
 have h1:=d.lt
 have h2:=e.lt
 rw[D6] at h1 h2
 rw[show(31+1:Int).toNat=(32:Int).toNat from rfl,Nat.div_eq_of_lt h1,Nat.div_eq_of_lt h2]
theorem t8 (d:Dg) (n:Nat):d.n / 2 ^ (32*n)=2 ^ 32*(d.n / 2 ^ (32*(n+1)))+d.dig n:=by
 have:d.n / 2 ^ (32*(n+1))=d.n / 2 ^ (32*n) / 2 ^ 32:=by
  rw[Nat.div_div_eq_div_mul, ← Nat.pow_add]
  rw[show 32*(n+1)=32*n+32 from by omega]
 rw[this]
 unfold Dg.dig
 omega
theorem yS {d e:Dg} {n:Nat} (h:f8 d e (n+1)) (hd:d.dig n=e.dig n):f8 d e n:=by
 unfold f8 at *
 rw[t8 d n,t8 e n,h,hd]
theorem rP {d e:Dg} {n:Nat} (h:f8 d e (n+1)) (hd:d.dig n < e.dig n):d.n < e.n:=by
 unfold f8 at h
 have h1:=t8 d n
 have h2:=t8 e n
 rw[h] at h1
 have:d.n / 2 ^ (32*n) < e.n / 2 ^ (32*n):=by omega
 exact Nat.lt_of_not_le fun hle=>by have:=Nat.div_le_div_right (c:=2 ^ (32*n)) hle;omega
theorem vD {d e:Dg} (h:f8 d e 0):d.n=e.n:=by simpa [f8] using h
end Go.Eng
