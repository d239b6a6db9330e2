
import Derived.Test.YtdbmppedhaipoaaGreatZLE0
import Derived.Test.YtdbmppedhaipoaaGreatSpecB7
set_option linter.all false
set_option exponentiation.threshold 3000
set_option maxRecDepth 100000
set_option maxHeartbeats 2000000
namespace Go.Eng
open Go.Proofs
def uH0 (A:Alg) (C:SC):List (Nat×bU):=(15,aC [.v] A (Wq C)) :: ([])
theorem Zf:COK Tryz.prog (aN (uH0 aA UT)):=aB Vk (bC)
theorem W9:aJ Tryz.prog 20 (aC [.v] aA (XG aA UT)):=by
 refine aH (un:=⟨false,some [1,2,3,11]⟩) tok Zf aL (fn:=Tryz.f20) ?_
 intro w Wr args bs r hg ho hWr A L k hA hL hk
 obtain⟨C,hC⟩:=exE UT
 try rw[← hC]
 try rw[← hA]
 unfold XG at hg
 split at hg <;> cases hg
 rename_i x y s
 have o1:UT.is x y s=true:=(aG ho).1
 have o2:(s != 1)=true:=(aG (aG ho).2).1
 clear ho
 cbv
 repeat' with_reducible first | (intro hb;cbv) | refine UM ?_ ?_
 ·exfalso
  subst hA hC
  have hb:(if(!UT.is x y s)=true then true else(s == 1))=true:=hb
  rw[o1] at hb
  simp at hb o2
  exact o2 hb
 ·exact hk _ _ (bE.pure rfl fun ρ=>by subst hA;rfl)
def gTP:List CV→List Blk→Option LR
 | [.g [.s (.int .i64 x), .s (.int .i64 y), .s (.int .i64 s)], .g [.P a], .g [.P b]],[]=>some ⟨[], .c (.s (.bool true)),[]⟩
 | _,_=>none
def XY (A:Alg) (C:SC) (H:SH) (x y s:Int) (a b:Pt):Bool:=A.ite (A.ite (A.ite (A.not (C.is x y s)) true (A.cmp .eql s 1)) true (A.not (H.all [a]))) true (A.not (H.all [b]))
def Zt (A:Alg) (B:SB) (x y s:Int) (a b:Pt):Bool:=
 A.ite (A.beq (B.seg x y s a b) (A.ite (A.ite (A.ite (B.seg x y (A.bin .quo .i64 s 2) a b) true (B.seg (A.bin .add .i64 x (A.bin .quo .i64 s 2)) y (A.bin .quo .i64 s 2) a b)) true (B.seg x (A.bin .add .i64 y (A.bin .quo .i64 s 2)) (A.bin .quo .i64 s 2) a b)) true (B.seg (A.bin .add .i64 x (A.bin .quo .i64 s 2)) (A.bin .add .i64 y (A.bin .quo .i64 s 2)) (A.bin .quo .i64 s 2) a b))) (A.beq (B.seg x y s a b) (B.seg x y s b a)) false
structure TpF (A:Alg) (C:SC) (H:SH) (B:SB) (x y s:Int) (a b:Pt):Prop where
 o1:XY A C H x y s a b=false→C.is x y s=true
 o2:XY A C H x y s a b=false→A.cmp .neq s 1=true
 v:XY A C H x y s a b=false→Zt A B x y s a b=true
theorem ZI (A:Alg) (hA:A=aA) (C:SC) (hC:C=UT) (H:SH) (hH:H=bD) (B:SB) (hB:B=UP) (x y s:Int) (a b:Pt):TpF A C H B x y s a b:=by
 subst hA hC hH hB
 have it: ∀ u v:Bool,aA.ite u true v=(u||v):=fun u v=>by cases u <;> rfl
 have ia: ∀ u v:Bool,aA.ite u v false=(u&&v):=fun u v=>by cases u <;> rfl
 have ha: ∀ p,bD.all [p]=dJ p:=fun p=>by show(dJ p&&true)=_;rw[Bool.and_true]
 have key:XY aA UT bD x y s a b=false→Vq x y s=true∧s≠1∧dJ a=true∧dJ b=true:=fun h=>by
  unfold XY at h
  rw[it,it,it,ha,ha] at h
  have h:(((!Vq x y s||(s == 1))|| !dJ a)|| !dJ b)=false:=h
  simp at h
  exact⟨h.1.1.1,h.1.1.2,h.1.2,h.2⟩
 refine⟨fun h=>(key h).1,fun h=>?_,fun h=>?_⟩
 ·show(s != 1)=true
  simpa using (key h).2.1
 ·obtain⟨h1,h2,h3,h4⟩:=key h
  have c:=Vb h1
  have eh:aA.bin .quo .i64 s 2=s / 2:=by
   show IntKind.i64.wrap (s.tdiv 2)=_
   have:=c.s0
   have:=c.s1
   rw[IntKind.wrap_i64,Int.tdiv_eq_ediv_of_nonneg (by omega)];omega
  have f:=ZA h1 h2 rfl
  have ex:aA.bin .add .i64 x (s / 2)=x+s / 2:=by
   show IntKind.i64.wrap _=_
   have:=c.x0;have:=c.x1;have:=c.s0
   rw[IntKind.wrap_i64];omega
  have ey:aA.bin .add .i64 y (s / 2)=y+s / 2:=by
   show IntKind.i64.wrap _=_
   have:=c.y0;have:=c.y1;have:=c.s0
   rw[IntKind.wrap_i64];omega
  unfold Zt
  rw[eh,ex,ey,ia,it,it,it]
  show((U3 x y s a b == (((U3 x y (s / 2) a b||U3 (x+s / 2) y (s / 2) a b)||U3 x (y+s / 2) (s / 2) a b)||U3 (x+s / 2) (y+s / 2) (s / 2) a b))&&(U3 x y s a b == U3 x y s b a))=true
  rw[← Xa h1 f h3 h4, ← WN]
  simp
def uH1 (A:Alg) (H:SH) (B:SB) (C:SC):List (Nat×bU):=(10,aR [] A (Vs)) :: (15,aC [.v] A (Wq C)) :: (19,aC [.v] A (C1 H)) :: (20,aC [.v] A (XG A C)) :: (12,aC [.v, .v, .v] A (VW B)) :: ([])
theorem Zg:COK Tryz.prog (aN (uH1 aA bD UP UT)):=aB U2 (aB Vk (aB z9 (aB W9 (aB Vt (bC)))))
theorem VP:aJ Tryz.prog 4 (aC [.v, .v, .v] aA (gTP)):=by
 refine aH (un:=⟨true,some [3,4,5,6,7,8,9,11,29,33]⟩) tok Zg aL (fn:=Tryz.f4) ?_
 intro w Wr args bs r hg ho hWr A L k hA hL hk
 obtain⟨B,hB⟩:=exE UP
 obtain⟨C,hC⟩:=exE UT
 obtain⟨H,hH⟩:=exE bD
 try rw[← hB]
 try rw[← hC]
 try rw[← hH]
 try rw[← hA]
 unfold gTP at hg
 split at hg <;> cases hg
 rename_i x y s a b
 have f:=ZI A hA C hC H hH B hB x y s a b
 cbv
 repeat' first | ((with_reducible intro hb);cbv) | with_reducible refine And.intro ?_ ?_
 ·exfalso;subst hA;cases hb
 ·exact hk _ _ (bE.pure rfl fun ρ=>BH rfl)
 ·exact f.o1 (by assumption)
 ·exact f.o2 (by assumption)
 ·exact hk _ _ (bE.pure rfl fun ρ=>yQ (f.v (by assumption)))
end Go.Eng
