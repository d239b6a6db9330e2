
import Derived.Test.YtdbmppedhaipoaaGreatZCellT
import Derived.Test.YtdbmppedhaipoaaGreatZCWA
import Derived.Test.YtdbmppedhaipoaaGreatEngMW
set_option linter.all false
set_option exponentiation.threshold 3000
set_option maxRecDepth 100000
namespace Go.Eng
open Go.Proofs
def pw2 (s:Int):Bool:=decide (s=1)||decide (s=2)||decide (s=4)||decide (s=8)||decide (s=16)||decide (s=32)||decide (s=64)
def cIs (x y s:Int):Bool:=pw2 s&&decide (0≤x)&&decide (0≤y)&&decide (x≤64 - s)&&decide (y≤64 - s)&&decide (x % s=0)&&decide (y % s=0)
def Wt:List Int→Int
 | []=>0
 | x :: r=>if x=0 then Wt r else x
def X6 (x y:Int):Int:=[(0:Int),1,2,3,4,5,6,7].foldl (fun(o i:Int)=>aD .or .i64 (aD .or .i64 o (aD .shl .i64 (aD .and .i64 (aD .shr .i64 x i) 1) (2*i))) (aD .shl .i64 (aD .and .i64 (aD .shr .i64 y i) 1) (2*i+1))) 0
def com (a b c d:Int):Int:=min b d - max a c
def Zx (x y s u v t:Int):Bool:=cIs x y s&&cIs u v t&&((decide (com x (x+s) u (u+t)=0)&&decide (com y (y+s) v (v+t) > 0))||(decide (com x (x+s) u (u+t) > 0)&&decide (com y (y+s) v (v+t)=0)))
structure SC where
 is:Int→Int→Int→Bool
 sgn:Int→Int→Int
 nz:List Int→Int
 key:Int→Int→Int→Int
 cmp:Int→Int→Int→Int→Int→Int→Int
 has:Int→Int→Int→Int→Int→Bool
 bes:Int→Int→Int→Int→Int→Int→Bool
 upOK:Int→Int→Int→Bool
 up1:Int→Int→Int→Int
 up2:Int→Int→Int→Int
 up3:Int→Int→Int→Int
 rg:Int→Bool
def UT:SC where
 is:=cIs
 sgn:=Eng.sgn
 nz:=Wt
 key x y s:=if cIs x y s then X6 x y else -1
 cmp x y s u v t:=if Eng.sgn (if cIs x y s then X6 x y else -1) (if cIs u v t then X6 u v else -1)=0 then Eng.sgn s t else Eng.sgn (if cIs x y s then X6 x y else -1) (if cIs u v t then X6 u v else -1)
 has x y s p q:=cIs x y s&&decide (x≤p)&&decide (p≤x+s)&&decide (y≤q)&&decide (q≤y+s)
 bes:=Zx
 upOK x y s:=cIs x y s&&decide (s≠64)
 up1 x y s:=if cIs x y s&&decide (s≠64) then x - x % (2*s) else 0
 up2 x y s:=if cIs x y s&&decide (s≠64) then y - y % (2*s) else 0
 up3 x y s:=if cIs x y s&&decide (s≠64) then 2*s else 0
 rg n:=decide (-9223372036854775808≤n)&&decide (n < 9223372036854775808)
theorem XQ (s:Int) (h1:1≤s) (h2:s≤64):(aD .and .i64 s (s - 1) == 0)=pw2 s:=by
 have key: ∀ n:Nat,n < 65→1≤n→(aD .and .i64 (n:Int) ((n:Int) - 1) == 0)=pw2 (n:Int):=by decide +kernel
 have:=key s.toNat (by omega) (by omega)
 rwa [show((s.toNat:Nat):Int)=s from by omega] at this
theorem Wo {s:Int} (h:pw2 s=true):1≤s∧s≤64:=by
 simp only[pw2,Bool.or_eq_true,decide_eq_true_eq] at h;omega
def kC1 (A:Alg):List (Nat×bU):=([])
theorem X5:COK Tryz.prog (aN (kC1 aA)):=bC
def Wq (C:SC):List CV→List Blk→Option LR
 | [.g [.s (.int .i64 x), .s (.int .i64 y), .s (.int .i64 s)]],[]=>some ⟨[], .c (.s (.bool (C.is x y s))),[]⟩
 | _,_=>none
theorem WX (x y s:Int):aA.ite (aA.ite (aA.ite (aA.ite (aA.ite (aA.ite (aA.ite (aA.ite (aA.cmp .geq s 1) (aA.cmp .leq s 64) false) (aA.cmp .eql (aA.bin .and .i64 s (aA.bin .sub .i64 s 1)) 0) false) (aA.cmp .geq x 0) false) (aA.cmp .geq y 0) false)
  (aA.cmp .leq x (aA.bin .sub .i64 64 s)) false) (aA.cmp .leq y (aA.bin .sub .i64 64 s)) false) (aA.cmp .eql (aA.bin .rem .i64 x s) 0) false) (aA.cmp .eql (aA.bin .rem .i64 y s) 0) false=cIs x y s:=by
 simp only[aA,aP,Bool.if_false_right,Bool.decide_eq_true]
 by_cases hs:1≤s∧s≤64
 ·have e1:aD .sub .i64 s 1=s - 1:=by simp only[aD,IntKind.wrap_i64];omega
  have e2:aD .sub .i64 64 s=64 - s:=by simp only[aD,IntKind.wrap_i64];omega
  rw[e1,e2,XQ s hs.1 hs.2]
  rw[Bool.eq_iff_iff]
  simp only[cIs,Bool.and_eq_true,decide_eq_true_eq,beq_iff_eq]
  have hm: ∀ z:Int,0≤z→aD .rem .i64 z s=z % s:=fun z hz=>Int.tmod_eq_emod_of_nonneg hz
  constructor
  ·rintro⟨⟨⟨⟨⟨⟨⟨_,h⟩,h3⟩,h4⟩,h5⟩,h6⟩,h7⟩,h8⟩
   rw[hm x h3] at h7;rw[hm y h4] at h8
   exact⟨⟨⟨⟨⟨⟨h,h3⟩,h4⟩,h5⟩,h6⟩,h7⟩,h8⟩
  ·rintro⟨⟨⟨⟨⟨⟨h,h3⟩,h4⟩,h5⟩,h6⟩,h7⟩,h8⟩
   rw[hm x h3,hm y h4]
   exact⟨⟨⟨⟨⟨⟨⟨⟨hs.1,hs.2⟩,h⟩,h3⟩,h4⟩,h5⟩,h6⟩,h7⟩,h8⟩
 ·have e1:(decide (s ≥ 1)&&decide (s≤64))=false:=by rw[← Bool.decide_and];exact decide_eq_false hs
  have e2:pw2 s=false:=by
   rw[Bool.eq_false_iff];exact fun h=>hs (Wo h)
  simp only[e1,Bool.false_and,cIs,e2]
theorem Yo:aJ Tryz.prog 50 (aC [.v] aA (Wq UT)):=by
 refine aH (un:=⟨false,none⟩) tok X5 aL (fn:=Tryz.f50) ?_
 intro w Wr args bs r hg ho hWr A L k hA hL hk
 obtain⟨C,hC⟩:=exE UT
 try rw[← hC]
 try rw[← hA]
 unfold Wq at hg
 split at hg <;> cases hg
 rename_i x y s
 cbv
 repeat' with_reducible first | (intro hb;cbv) | refine UM ?_ ?_
 ·(try clear hk);(try clear hL);(try clear hexit hnext hret);(try clear hexit2 hnext2 hret2);(try clear hL2);(try clear hL3);(try clear hexit3 hnext3 hret3);(try subst hA3);(try subst hA2);(try subst hA);(try simp only[vH] at *);(try simp only[zn] at *);(try simp only[aA,aP,aD,Bool.if_false_right,Bool.if_true_left,Bool.decide_eq_true,Bool.and_eq_false_iff,Bool.or_eq_false_iff,IntKind.wrap_i64,IntKind.wrap_u32,IntKind.wrap_u8,cX,Int.zero_add,Int.sub_zero,bM,beq_true,Bool.or_eq_true,Bool.and_eq_true,Bool.not_eq_true',decide_eq_true_eq,decide_eq_false_iff_not,beq_iff_eq,bne_iff_ne,beq_eq_false_iff_ne,ne_eq,if_true,if_false] at *);omega
 ·(try clear hk);(try clear hL);(try clear hexit hnext hret);(try clear hexit2 hnext2 hret2);(try clear hL2);(try clear hL3);(try clear hexit3 hnext3 hret3);(try subst hA3);(try subst hA2);(try subst hA);(try simp only[vH] at *);(try simp only[zn] at *);(try simp only[aA,aP,aD,Bool.if_false_right,Bool.if_true_left,Bool.decide_eq_true,Bool.and_eq_false_iff,Bool.or_eq_false_iff,IntKind.wrap_i64,IntKind.wrap_u32,IntKind.wrap_u8,cX,Int.zero_add,Int.sub_zero,bM,beq_true,Bool.or_eq_true,Bool.and_eq_true,Bool.not_eq_true',decide_eq_true_eq,decide_eq_false_iff_not,beq_iff_eq,bne_iff_ne,beq_eq_false_iff_ne,ne_eq,if_true,if_false] at *);omega
 ·subst hA hC
  exact hk _ _ (bE.pure rfl fun ρ=>congrArg Value.bool (WX x y s))
def Wv (A:Alg):List CV→List Blk→Option LR
 | [.g [.s (.int .i64 x), .s (.int .i64 y), .s (.int .i64 s)]],[]=>some ⟨[], .c (.g [.s (.int .i64 x), .s (.int .i64 (A.bin .add .i64 x s)), .s (.int .i64 y), .s (.int .i64 (A.bin .add .i64 y s))]),[]⟩
 | _,_=>none
theorem W7:aJ Tryz.prog 80 (aC [.v] aA (Wv aA)):=by
 refine aH (un:=⟨false,none⟩) tok X5 aL (fn:=Tryz.f80) ?_
 intro w Wr args bs r hg ho hWr A L k hA hL hk
 try rw[← hA]
 unfold Wv at hg
 split at hg <;> cases hg
 cbv
 exact hk _ _ (bE.pure rfl fun ρ=>by subst hA;rfl)
def aaW (A:Alg):List CV→List Blk→Option LR
 | [.g [.s (.int .i64 a), .s (.int .i64 b)], .s (.int .i64 n)],[]=>some ⟨[], .c (.s (.bool (A.ite (A.cmp .geq n a) (A.cmp .leq n b) false))),[]⟩
 | _,_=>none
def XG (A:Alg) (C:SC):List CV→List Blk→Option LR
 | [.g [.s (.int .i64 x), .s (.int .i64 y), .s (.int .i64 s)]],[]=>some ⟨[C.is x y s,A.cmp .neq s 1],
   .c (.g [.s (.int .i64 x), .s (.int .i64 y), .s (.int .i64 (A.bin .quo .i64 s 2)), .s (.int .i64 (A.bin .add .i64 x (A.bin .quo .i64 s 2))), .s (.int .i64 y), .s (.int .i64 (A.bin .quo .i64 s 2)),
    .s (.int .i64 x), .s (.int .i64 (A.bin .add .i64 y (A.bin .quo .i64 s 2))), .s (.int .i64 (A.bin .quo .i64 s 2)), .s (.int .i64 (A.bin .add .i64 x (A.bin .quo .i64 s 2))), .s (.int .i64 (A.bin .add .i64 y (A.bin .quo .i64 s 2))), .s (.int .i64 (A.bin .quo .i64 s 2))]),[]⟩
 | _,_=>none
end Go.Eng
