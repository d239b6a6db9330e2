
import Derived.Test.YtbfknjpggfkgjaaGreatYCellT
import Derived.Test.YtbfknjpggfkgjaaGreatYCWA
import Derived.Test.YtbfknjpggfkgjaaGreatEngMW
set_option linter.all false
set_option exponentiation.threshold 3000
set_option maxRecDepth 100000
namespace Go.Eng
open Go.Proofs
def pw2 (s:Int):Bool:=decide (s=1)||decide (s=2)||decide (s=4)||decide (s=8)||decide (s=16)||decide (s=32)||decide (s=64)
def cIs (x y s:Int):Bool:=pw2 s&&decide (0≤x)&&decide (0≤y)&&decide (x≤64 - s)&&decide (y≤64 - s)&&decide (x % s=0)&&decide (y % s=0)
def Wt:List Int→Int
 | []=>0
 | x :: r=>if x=0 then Wt r else x
def X6 (x y:Int):Int:=[(0:Int),1,2,3,4,5,6,7].foldl (fun(o i:Int)=>aD .or .i64 (aD .or .i64 o (aD .shl .i64 (aD .and .i64 (aD .shr .i64 x i) 1) (2*i))) (aD .shl .i64 (aD .and .i64 (aD .shr .i64 y i) 1) (2*i+1))) 0
def com (a b c d:Int):Int:=min b d - max a c
def Zx (x y s u v t:Int):Bool:=cIs x y s&&cIs u v t&&((decide (com x (x+s) u (u+t)=0)&&decide (com y (y+s) v (v+t) > 0))||(decide (com x (x+s) u (u+t) > 0)&&decide (com y (y+s) v (v+t)=0)))
structure SC where
 is:Int→Int→Int→Bool
 sgn:Int→Int→Int
 nz:List Int→Int
 key:Int→Int→Int→Int
 cmp:Int→Int→Int→Int→Int→Int→Int
 has:Int→Int→Int→Int→Int→Bool
 bes:Int→Int→Int→Int→Int→Int→Bool
 upOK:Int→Int→Int→Bool
 up1:Int→Int→Int→Int
 up2:Int→Int→Int→Int
 up3:Int→Int→Int→Int
 rg:Int→Bool
def UT:SC where
 is:=cIs
 sgn:=Eng.sgn
 nz:=Wt
 key x y s:=if cIs x y s then X6 x y else -1
 cmp x y s u v t:=if Eng.sgn (if cIs x y s then X6 x y else -1) (if cIs u v t then X6 u v else -1)=0 then Eng.sgn s t else Eng.sgn (if cIs x y s then X6 x y else -1) (if cIs u v t then X6 u v else -1)
 has x y s p q:=cIs x y s&&decide (x≤p)&&decide (p≤x+s)&&decide (y≤q)&&decide (q≤y+s)
 bes:=Zx
 upOK x y s:=cIs x y s&&decide (s≠64)
 up1 x y s:=if cIs x y s&&decide (s≠64) then x - x % (2*s) else 0
 up2 x y s:=if cIs x y s&&decide (s≠64) then y - y % (2*s) else 0
 up3 x y s:=if cIs x y s&&decide (s≠64) then 2*s else 0
 rg n:=decide (-9223372036854775808≤n)&&decide (n < 9223372036854775808)
def arV:List CV→List Blk→Option LR
 | [.s (.int .i64 _)],[]=>some ⟨[], .c (.s (.tt false)),[]⟩
 | _,_=>none
theorem aq0:aJ Tryz.prog 139 (aC [.v] aA (arV)):=by
 refine aH (un:=⟨false,none⟩) tok nF aL (fn:=Tryz.f139) ?_
 intro w Wr args bs r hg ho hWr A L k hA hL hk
 try rw[← hA]
 unfold arV at hg
 split at hg <;> cases hg
 rename_i n
 cbv
 refine hk _ _ (bE.pure rfl fun ρ=>?_)
 subst hA
 show Value.bool (n != n)= .bool false
 simp
def kC1 (A:Alg):List (Nat×bU):=(139,aC [.v] A (arV)) :: ([])
theorem X5:COK Tryz.prog (aN (kC1 aA)):=aB aq0 (bC)
def amU (C:SC):List CV→List Blk→Option LR
 | [.s (.int .i64 a), .s (.int .i64 b)],[]=>some ⟨[], .c (.s (.int .i64 (C.sgn a b))),[]⟩
 | _,_=>none
theorem am1:aJ Tryz.prog 88 (aC [.v, .v] aA (amU UT)):=by
 refine aH (un:=⟨false,none⟩) tok X5 aL (fn:=Tryz.f88) ?_
 intro w Wr args bs r hg ho hWr A L k hA hL hk
 obtain⟨C,hC⟩:=exE UT
 try rw[← hC]
 try rw[← hA]
 unfold amU at hg
 split at hg <;> cases hg
 rename_i a b
 cbv
 repeat' with_reducible first | (intro hb;cbv) | refine UM ?_ ?_
 all_goals subst hC hA
 all_goals refine hk _ _ (bE.pure rfl fun ρ=>?_)
 ·show Value.int .i64 (-1)= .int .i64 (sgn a b)
  have hb:decide (a < b)=true:=hb
  rw[sgn,if_pos (of_decide_eq_true hb)]
 ·rename_i hb1
  have hb:decide (a > b)=true:=hb
  have hb1:decide (a < b)=false:=hb1
  show Value.int .i64 1= .int .i64 (sgn a b)
  rw[sgn,if_neg (of_decide_eq_false hb1),if_pos (of_decide_eq_true hb)]
 ·rename_i hb1
  have hb:decide (a > b)=false:=hb
  have hb1:decide (a < b)=false:=hb1
  show Value.int .i64 0= .int .i64 (sgn a b)
  rw[sgn,if_neg (of_decide_eq_false hb1),if_neg (of_decide_eq_false hb)]
def kC2 (A:Alg) (C:SC):List (Nat×bU):=(88,aC [.v, .v] A (amU C)) :: ((kC1 A))
theorem aqI:COK Tryz.prog (aN (kC2 aA UT)):=aB am1 (X5)
end Go.Eng
