
import Derived.Test.YtdbmppedhaipoaaGreatZCE4
set_option linter.all false
set_option exponentiation.threshold 3000
set_option maxRecDepth 100000
set_option maxHeartbeats 2000000
namespace Go.Eng
open Go.Proofs
structure TmF (A:Alg) (C:SC) (H:SH) (B:SB) (x y s:Int) (a b:Pt):Prop where
 c1:A.ite (A.not (C.is x y s)) true (A.not (H.all [a,b]))=true→false=B.seg x y s a b
 ci:A.ite (A.not (C.is x y s)) true (A.not (H.all [a,b]))=false→C.is x y s=true
 c2:A.ite (A.not (C.is x y s)) true (A.not (H.all [a,b]))=false→A.ite (B.apart a.X b.X (B.c0 x y s).X (B.c2 x y s).X) true (B.apart a.Y b.Y (B.c0 x y s).Y (B.c2 x y s).Y)=true→false=B.seg x y s a b
 c3:A.ite (A.not (C.is x y s)) true (A.not (H.all [a,b]))=false→A.ite (B.apart a.X b.X (B.c0 x y s).X (B.c2 x y s).X) true (B.apart a.Y b.Y (B.c0 x y s).Y (B.c2 x y s).Y)=false→A.not (B.aside a b (B.c0 x y s) (B.c1 x y s) (B.c2 x y s) (B.c3 x y s))=B.seg x y s a b
theorem ZG (A:Alg) (hA:A=aA) (C:SC) (hC:C=UT) (H:SH) (hH:H=bD) (B:SB) (hB:B=UP) (x y s:Int) (a b:Pt):TmF A C H B x y s a b:=by
 subst hA hC hH hB
 have it: ∀ u v:Bool,aA.ite u true v=(u||v):=fun u v=>by cases u <;> rfl
 have nt: ∀ u:Bool,aA.not u= !u:=fun u=>rfl
 have e:UP.seg x y s a b=(UT.is x y s&&(bD.all [a,b]&&(!(UP.apart a.X b.X (UP.c0 x y s).X (UP.c2 x y s).X||UP.apart a.Y b.Y (UP.c0 x y s).Y (UP.c2 x y s).Y)&& !UP.aside a b (UP.c0 x y s) (UP.c1 x y s) (UP.c2 x y s) (UP.c3 x y s)))):=rfl
 constructor <;> simp only[it,nt,e]
 all_goals
  cases UT.is x y s <;> cases bD.all [a,b] <;> cases UP.apart a.X b.X (UP.c0 x y s).X (UP.c2 x y s).X <;> cases UP.apart a.Y b.Y (UP.c0 x y s).Y (UP.c2 x y s).Y <;> cases UP.aside a b (UP.c0 x y s) (UP.c1 x y s) (UP.c2 x y s) (UP.c3 x y s) <;> decide
def Ww (B:SB):List CV→List Blk→Option LR
 | [.g [.P a, .P b], .g [.s (.int .i64 x), .s (.int .i64 y), .s (.int .i64 s)]],[]=>some ⟨[], .c (.s (.bool (B.seg x y s a b))),[]⟩
 | _,_=>none
def eC1 (A:Alg) (C:SC) (H:SH) (B:SB):List (Nat×bU):=(50,aC [.v] A (Wq C)) :: (53,aC [.v] A (V6 H)) :: (54,aC [.v] A (VL C B)) :: (55,aC [.v, .v, .v, .v] A (Wj B)) :: (56,aC [.v, .v] A (Wu B)) :: ([])
theorem YM:COK Tryz.prog (aN (eC1 aA UT bD UP)):=aB Yo (aB Yn (aB XM (aB W5 (aB W6 (bC)))))
theorem WH:aJ Tryz.prog 31 (aC [.v, .v] aA (Ww UP)):=by
 refine aH (un:=⟨false,some [0,1,2,3,4,5,14,48]⟩) tok YM aL (fn:=Tryz.f31) ?_
 intro w Wr args bs r hg ho hWr A L k hA hL hk
 obtain⟨B,hB⟩:=exE UP
 obtain⟨C,hC⟩:=exE UT
 obtain⟨H,hH⟩:=exE bD
 try rw[← hB]
 try rw[← hC]
 try rw[← hH]
 try rw[← hA]
 unfold Ww at hg
 split at hg <;> cases hg
 rename_i a b x y s
 have f:=ZG A hA C hC H hH B hB x y s a b
 cbv
 repeat' with_reducible first | (intro hb;cbv) | refine UM ?_ ?_
 ·refine hk _ _ (bE.pure rfl fun ρ=>BH ?_)
  rw[← hB]
  exact f.c1 hb
 intro hb
 have ci:=f.ci hb
 have f2:=f.c2 hb
 have f3:=f.c3 hb
 clear f hb
 with_reducible refine U7 ?_
 show run _ _ (Code.seq _ _) _ _
 with_reducible refine fA fun kk hn hx=>?_
 cbv
 repeat' with_reducible first | (intro hb;cbv) | refine UM ?_ ?_
 all_goals first | (with_reducible refine hn _ ?_;clear hn hx kk) | exact ci | skip
 cbv
 repeat' with_reducible first | (intro hb;cbv) | refine UM ?_ ?_
 ·refine hk _ _ (bE.pure rfl fun ρ=>BH ?_)
  rw[← hB]
  exact f2 hb
 ·refine hk _ _ (bE.pure rfl fun ρ=>yQ ?_)
  rw[← hB]
  exact f3 hb
def VW (B:SB):List CV→List Blk→Option LR
 | [.g [.s (.int .i64 x), .s (.int .i64 y), .s (.int .i64 s)], .g [.P a], .g [.P b]],[]=>some ⟨[], .c (.s (.bool (B.seg x y s a b))),[]⟩
 | _,_=>none
def eC2 (A:Alg) (B:SB):List (Nat×bU):=(31,aC [.v, .v] A (Ww B)) :: ([])
theorem YN:COK Tryz.prog (aN (eC2 aA UP)):=aB WH (bC)
theorem Vt:aJ Tryz.prog 12 (aC [.v, .v, .v] aA (VW UP)):=by
 refine aH (un:=⟨false,some [0,1,2,3,4,5,6]⟩) tok YN aL (fn:=Tryz.f12) ?_
 intro w Wr args bs r hg ho hWr A L k hA hL hk
 obtain⟨B,hB⟩:=exE UP
 try rw[← hB]
 try rw[← hA]
 unfold VW at hg
 split at hg <;> cases hg
 cbv
 exact hk _ _ (bE.pure rfl fun ρ=>by subst hB;rfl)
def YS (C:SC) (B:SB):List CV→List Blk→Option LR
 | [.g [.s (.int .i64 x), .s (.int .i64 y), .s (.int .i64 s)], .g [.P p]],[]=>some ⟨[C.is x y s], .c (.s (.bool (B.in_ x y s p))),[]⟩
 | _,_=>none
theorem ZB (A:Alg) (hA:A=aA) (F:SF) (hF:F=aO) (B:SB) (hB:B=UP) (x y s:Int) (p:Pt):A.ite (A.ite (A.ite (A.cmp .geq (F.cmp p.X (B.c0 x y s).X) 0) (A.cmp .leq (F.cmp p.X (B.c2 x y s).X) 0) false) (A.cmp .geq (F.cmp p.Y (B.c0 x y s).Y) 0) false) (A.cmp .leq (F.cmp p.Y (B.c2 x y s).Y) 0) false=B.in_ x y s p:=by
 subst hA hF hB
 have e: ∀ u v:Bool,aA.ite u v false=(u&&v):=fun u v=>by cases u <;> rfl
 rw[e,e,e,Bool.and_assoc,Bool.and_assoc]
 rfl
def eC3 (A:Alg) (C:SC) (F:SF) (B:SB):List (Nat×bU):=(32,aC [.v] A (VL C B)) :: (61,aC [.v, .v] A (A1 F)) :: ([])
theorem YO:COK Tryz.prog (aN (eC3 aA UT aO UP)):=aB Wm (aB Gs (bC))
theorem Ys:aJ Tryz.prog 34 (aC [.v, .v] aA (YS UT UP)):=by
 refine aH (un:=⟨false,some [0,1,2,3,4,5,6,8,10,12]⟩) tok YO aL (fn:=Tryz.f34) ?_
 intro w Wr args bs r hg ho hWr A L k hA hL hk
 obtain⟨B,hB⟩:=exE UP
 obtain⟨C,hC⟩:=exE UT
 obtain⟨F,hF⟩:=exE aO
 try rw[← hB]
 try rw[← hC]
 try rw[← hF]
 try rw[← hA]
 unfold YS at hg
 split at hg <;> cases hg
 rename_i x y s p
 have hc:C.is x y s=true:=by rw[hC];exact(aG ho).1
 have e:=ZB A hA F hF B hB x y s p
 clear ho
 cbv
 repeat' with_reducible first | (intro hb;cbv) | refine UM ?_ ?_
 ·exact hc
 refine hk _ _ (bE.pure rfl fun ρ=>yQ ?_)
 rw[← hB]
 exact e
end Go.Eng
