
import Derived.Test.YtekohdfjkmdlpaaCMA
import Derived.Test.YtekohdfjkmdlpaaSpecMA
set_option linter.all false
set_option exponentiation.threshold 3000
namespace Go.Eng
open Go.Proofs
set_option maxRecDepth 100000
set_option linter.all false
set_option exponentiation.threshold 3000
theorem yZ (a b:Int) (h0:0≤a) (h1:a < 4294967296) (h2:0≤b) (h3:b < 4294967296):aD .or .u32 a b=((a.toNat||| b.toNat:Nat):Int):=by
 have e1:=cE 32 a h0 (by omega)
 have e2:=cE 32 b h2 (by omega)
 have h4:a.toNat||| b.toNat < 2 ^ 32:=Nat.or_lt_two_pow (by omega) (by omega)
 show IntKind.u32.wrap ((BitVec.ofInt 32 a||| BitVec.ofInt 32 b).toNat:Int)=_
 rw[BitVec.toNat_or,e1,e2,IntKind.wrap_u32]
 omega
def RV (A:Alg) (S:SW) (V:SV) (X:SX) (M:SM):List (Nat×bU):=((tM9 A S V X M))
theorem Ez:COK Try.prog (aN (RV aA aV aS bR aZ)):=LE
end Go.Eng
namespace Go.Eng
open Go.Proofs
set_option maxRecDepth 100000
set_option linter.all false
set_option exponentiation.threshold 3000
set_option exponentiation.threshold 40000
structure HH (l m:List Int) (n:Nat):Prop where
 hl:Mag l
 hm:Mag m
 m0:0 < aM m
 n1:n≤32000
 nn:bP (aM m)+n=bP (aM l)
theorem HH.top {l m:List Int} {n:Nat} (h:HH l m n):aM l < aM m*2 ^ (n+1)∧aM m*2 ^ n < 2 ^ bP (aM l):=by
 obtain⟨g1,g2,g3⟩:=d7 (aM m) (by have:=h.m0;omega)
 have hnn:=h.nn
 have hl:aM l < 2 ^ bP (aM l):=by
  by_cases h0:aM l=0
  ·rw[h0];exact Nat.two_pow_pos _
  ·exact(d7 _ h0).2.2
 constructor
 ·rw[← hnn,show bP (aM m)+n=(bP (aM m) - 1)+(n+1) by omega,Nat.pow_add] at hl
  exact Nat.lt_of_lt_of_le hl (Nat.mul_le_mul_right _ g2)
 ·rw[← hnn,Nat.pow_add]
  exact Nat.mul_lt_mul_of_pos_right g3 (Nat.two_pow_pos _)
theorem HH.s {l m:List Int} {n:Nat} (h:HH l m n) {i:Nat} (hi:i≤n):Mag (bS (aM m*2 ^ i)):=by
 have h1:aM m*2 ^ i≤aM m*2 ^ n:=Nat.mul_le_mul_left _ (Nat.pow_le_pow_right (by decide) hi)
 have h2:=Nat.lt_of_le_of_lt h1 h.top.2
 refine Mag.lt h2 ?_
 have:=iE (aM l) 32000 (Nat.lt_of_lt_of_le (dU h.hl.w) (Nat.pow_le_pow_right (by decide) (by have:=h.hl.n;omega)))
 exact this
def RX (A:Alg) (S:SW) (V:SV) (X:SX) (M:SM):List (Nat×bU):=((RV A S V X M))
theorem EA:COK Try.prog (aN (RX aA aV aS bR aZ)):=Ez
end Go.Eng
namespace Go.Eng
open Go.Proofs
set_option maxRecDepth 100000
set_option linter.all false
set_option exponentiation.threshold 3000
set_option exponentiation.threshold 40000
theorem Mag.nz {l:List Int} (h:Mag l):aM l=0↔l.length=0:=by rw[h.len];exact qX.symm
theorem Mag.small {l:List Int} (h:Mag l):aM l < 2 ^ 32000:=Nat.lt_of_lt_of_le (dU h.w) (Nat.pow_le_pow_right (by decide) (by have:=h.n;omega))
def RY (A:Alg) (S:SW) (V:SV) (X:SX) (M:SM):List (Nat×bU):=((RX A S V X M))
theorem Ib:COK Try.prog (aN (RY aA aV aS bR aZ)):=EA
end Go.Eng
namespace Go.Eng
open Go.Proofs
set_option maxRecDepth 100000
set_option linter.all false
set_option exponentiation.threshold 3000
set_option exponentiation.threshold 40000
set_option maxHeartbeats 1000000
def RZ (A:Alg) (S:SW) (V:SV) (X:SX) (M:SM):List (Nat×bU):=((RY A S V X M))
theorem wM:COK Try.prog (aN (RZ aA aV aS bR aZ)):=Ib
def R0 (A:Alg) (S:SW) (V:SV) (X:SX) (M:SM):List (Nat×bU):=((RZ A S V X M))
theorem Ic:COK Try.prog (aN (R0 aA aV aS bR aZ)):=wM
end Go.Eng
namespace Go.Eng
open Go.Proofs
set_option maxRecDepth 100000
set_option linter.all false
set_option exponentiation.threshold 3000
set_option exponentiation.threshold 40000
set_option maxHeartbeats 1000000
def R1 (A:Alg) (S:SW) (V:SV) (X:SX) (M:SM):List (Nat×bU):=((R0 A S V X M))
theorem OM:COK Try.prog (aN (R1 aA aV aS bR aZ)):=Ic
end Go.Eng
namespace Go.Eng
open Go.Proofs
set_option maxRecDepth 100000
set_option linter.all false
set_option exponentiation.threshold 3000
set_option exponentiation.threshold 40000
set_option maxHeartbeats 1000000
def R2 (A:Alg) (S:SW) (V:SV) (X:SX) (M:SM):List (Nat×bU):=((R1 A S V X M))
theorem ON:COK Try.prog (aN (R2 aA aV aS bR aZ)):=OM
end Go.Eng

