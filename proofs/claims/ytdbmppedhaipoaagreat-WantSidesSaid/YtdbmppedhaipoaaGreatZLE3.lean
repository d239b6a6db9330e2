
import Derived.Test.YtdbmppedhaipoaaGreatZLE0
import Derived.Test.YtdbmppedhaipoaaGreatSpecBA
set_option linter.all false
set_option exponentiation.threshold 3000
set_option maxRecDepth 100000
set_option maxHeartbeats 2000000
namespace Go.Eng
open Go.Proofs
def XH (C:SC):List CV→List Blk→Option LR
 | [.g [.s (.int .i64 x), .s (.int .i64 y), .s (.int .i64 s)], .s (.int .i64 u), .s (.int .i64 v)],[]=>some ⟨[], .c (.s (.bool (C.has x y s u v))),[]⟩
 | _,_=>none
theorem YY (A:Alg) (hA:A=aA) (C:SC) (hC:C=UT) (x y s u v:Int):A.ite (A.ite (A.ite (A.ite (C.is x y s) (A.cmp .geq u x) false) (A.cmp .geq v y) false) (A.cmp .leq u (A.bin .add .i64 x s)) false) (A.cmp .leq v (A.bin .add .i64 y s)) false=C.has x y s u v:=by
 subst hA hC
 have ia: ∀ u v:Bool,aA.ite u v false=(u&&v):=fun u v=>by cases u <;> rfl
 rw[ia,ia,ia,ia]
 cases hc:UT.is x y s
 ·show((((false&&_)&&_)&&_)&&_)=((((cIs x y s&&_)&&_)&&_)&&_)
  rw[show cIs x y s=false from hc];rfl
 ·obtain⟨h1,h2,h3,h4,h5,h6⟩:=XA hc
  have e1:aA.bin .add .i64 x s=x+s:=by show IntKind.i64.wrap _=_;rw[IntKind.wrap_i64];omega
  have e2:aA.bin .add .i64 y s=y+s:=by show IntKind.i64.wrap _=_;rw[IntKind.wrap_i64];omega
  rw[e1,e2]
  show((((true&&decide (u ≥ x))&&decide (v ≥ y))&&decide (u≤x+s))&&decide (v≤y+s))=((((cIs x y s&&decide (x≤u))&&decide (u≤x+s))&&decide (y≤v))&&decide (v≤y+s))
  rw[show cIs x y s=true from hc,Bool.eq_iff_iff]
  simp only[Bool.and_eq_true,decide_eq_true_eq,ge_iff_le]
  constructor <;> (rintro⟨⟨⟨⟨_,h1⟩,h2⟩,h3⟩,h4⟩;exact⟨⟨⟨⟨by first | rfl | trivial | assumption,by omega⟩,by omega⟩,by omega⟩,by omega⟩)
def uI0 (A:Alg) (C:SC):List (Nat×bU):=(15,aC [.v] A (Wq C)) :: ([])
theorem Zh:COK Tryz.prog (aN (uI0 aA UT)):=aB Vk (bC)
theorem XN:aJ Tryz.prog 22 (aC [.v, .v, .v] aA (XH UT)):=by
 refine aH (un:=⟨false,some [1,2,3,6]⟩) tok Zh aL (fn:=Tryz.f22) ?_
 intro w Wr args bs r hg ho hWr A L k hA hL hk
 obtain⟨C,hC⟩:=exE UT
 try rw[← hC]
 try rw[← hA]
 unfold XH at hg
 split at hg <;> cases hg
 rename_i x y s u v
 have e:=YY A hA C hC x y s u v
 cbv
 repeat' with_reducible first | (intro hb;cbv) | refine UM ?_ ?_
 refine hk _ _ (bE.pure rfl fun ρ=>yQ ?_)
 rw[← hC]
 exact e
end Go.Eng
