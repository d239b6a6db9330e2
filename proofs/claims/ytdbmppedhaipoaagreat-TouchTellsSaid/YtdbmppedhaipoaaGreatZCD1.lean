
import Derived.Test.YtdbmppedhaipoaaGreatZCellT
import Derived.Test.YtdbmppedhaipoaaGreatSpecU
import Derived.Test.YtdbmppedhaipoaaGreatSpecFA
import Derived.Test.YtdbmppedhaipoaaGreatZCWA
set_option linter.all false
set_option exponentiation.threshold 3000
set_option maxRecDepth 100000
set_option maxHeartbeats 2000000
namespace Go.Eng
open Go.Proofs
def CX (U:SU):List CV→List Blk→Option LW
 | [.g [.s (.hs 0), .s (.hs 1), .s (.hs 2)], .s (.int .i64 i)],[.vec false .i3 V, .vec false .i3 S, .vec false .pt H]=>some ⟨[], .c (.s (.bool (U.has V i))),[],[]⟩
 | _,_=>none
def Mk (U:SU):List CV→List Blk→Option LW
 | [.g [.s (.hs 0), .s (.hs 1), .s (.hs 2)], .s (.int .i64 i)],[.vec false .i3 V, .vec false .i3 S, .vec false .pt H]=>some ⟨[], .c (.g [.s (.int .i64 (U.ax V i)), .s (.int .i64 (U.ay V i))]),[],[]⟩
 | _,_=>none
def zP (U:SU):List CV→List Blk→Option LR
 | [.g [.s (.int .i64 ax), .s (.int .i64 ay)], .g [.s (.int .i64 bx), .s (.int .i64 by_)], .g [.s (.int .i64 cx), .s (.int .i64 cy)]],[]=>some ⟨[], .c (.s (.int .i64 (U.turn ax ay bx by_ cx cy))),[]⟩
 | _,_=>none
def PZ (A:Alg) (U:SU):List CV→List Blk→Option LW
 | [.g [.s (.hs 0), .s (.hs 1), .s (.hs 2)], .s (.int .i64 k), .s (.int .i64 i)],[.vec false .i3 V, .vec false .i3 S, .vec false .pt H]=>
  some ⟨[A.cmp .leq 0 k,A.cmp .lss k (A.len S)], .c (.s (.bool (U.on V (A.get S k (0,0,0)).1 (A.get S k (0,0,0)).2.1 i))),[],[]⟩
 | _,_=>none
def Jq (U:SU):List CV→List Blk→Option LR
 | [.s (.int .i64 v), .s (.hp 0 0)],[.fix false [.s (.int .i64 a), .s (.int .i64 b), .s (.int .i64 c)]]=>some ⟨[], .c (.s (.bool (U.isEnd (a,b,c) v))),[]⟩
 | _,_=>none
theorem yM:aJ Tryz.prog 104 (aR [.g [.s .i3, .s .i3, .s .pt], .a .v] aA (CX bN)):=by
 refine aW (un:=⟨false,some [0,1,2,4]⟩) tok nF aL (fn:=Tryz.f104) ?_
 intro w Wr args bs r hg ho hWr A L k hA hL hk
 obtain⟨U,hU⟩:=exE bN
 try rw[← hU]
 try rw[← hA]
 unfold CX at hg
 split at hg <;> cases hg
 rename_i i V S H
 have e:A.ite (A.cmp .geq i 0) (A.cmp .lss i (A.len V)) false=U.has V i:=by
  subst hA hU
  show(if decide (i ≥ 0)=true then decide (i < (V.length:Int)) else false)=(decide (0≤i)&&decide (i < (V.length:Int)))
  by_cases h:0≤i <;> simp[h]
 cbv
 refine hk _ _ (bW.pure rfl rfl fun ρ=>dB ?_)
 subst hU
 exact e
structure AtF (A:Alg) (U:SU) (V:List (Int×Int×Int)) (i:Int):Prop where
 no:A.not (U.has V i)=true→0=U.ax V i∧0=U.ay V i
 lo:A.not (U.has V i)=false→A.cmp .leq 0 i=true
 hi:A.not (U.has V i)=false→A.cmp .lss i (A.len V)=true
 ok:A.not (U.has V i)=false→(A.get V i (0,0,0)).1=U.ax V i∧(A.get V i (0,0,0)).2.1=U.ay V i
theorem Sw (A:Alg) (hA:A=aA) (U:SU) (hU:U=bN) (V:List (Int×Int×Int)) (i:Int):AtF A U V i:=by
 subst hA hU
 have e:aA.not (bN.has V i)= !nS V i:=rfl
 have h3:bN.ax V i=if nS V i then(cK V i).1 else 0:=rfl
 have h4:bN.ay V i=if nS V i then(cK V i).2.1 else 0:=rfl
 cases h:nS V i
 ·rw[h] at e h3 h4
  exact⟨fun _=>⟨h3.symm,h4.symm⟩,fun h=>(by rw[e] at h;cases h),fun h=>(by rw[e] at h;cases h),fun h=>(by rw[e] at h;cases h)⟩
 ·rw[h] at e h3 h4
  unfold nS at h
  rw[Bool.and_eq_true] at h
  exact⟨fun h=>(by rw[e] at h;cases h),fun _=>h.1,fun _=>h.2,fun _=>⟨h3.symm,h4.symm⟩⟩
def tD1 (A:Alg) (U:SU):List (Nat×bU):=(104,aR [.g [.s .i3, .s .i3, .s .pt], .a .v] A (CX U)) :: ([])
theorem Ox:COK Tryz.prog (aN (tD1 aA bN)):=aB yM (bC)
theorem Ae:aJ Tryz.prog 96 (aR [.g [.s .i3, .s .i3, .s .pt], .a .v] aA (Mk bN)):=by
 refine aW (un:=⟨false,some [0,1,2,4,8]⟩) tok Ox aL (fn:=Tryz.f96) ?_
 intro w Wr args bs r hg ho hWr A L k hA hL hk
 obtain⟨U,hU⟩:=exE bN
 try rw[← hU]
 try rw[← hA]
 unfold Mk at hg
 split at hg <;> cases hg
 rename_i i V S H
 have f:=Sw A hA U hU V i
 cbv
 repeat' with_reducible first | (intro hb;cbv) | refine UM ?_ ?_
 all_goals first | exact f.lo (by assumption) | exact f.hi (by assumption) | skip
 ·refine hk _ _ (bW.pure rfl rfl fun ρ=>?_)
  have e:=f.no hb
  subst hU
  exact dLL e.1 e.2
 ·refine hk _ _ (bW.pure rfl rfl fun ρ=>?_)
  have e:=f.ok hb
  subst hU
  exact dII e.1 e.2
theorem Af:aJ Tryz.prog 137 (aC [.v, .v, .v] aA (zP bN)):=by
 refine aH (un:=⟨false,some [0,1,2,3,4,5,6,7]⟩) tok Ox aL (fn:=Tryz.f137) ?_
 intro w Wr args bs r hg ho hWr A L k hA hL hk
 obtain⟨U,hU⟩:=exE bN
 try rw[← hU]
 try rw[← hA]
 unfold zP at hg
 split at hg <;> cases hg
 cbv
 refine hk _ _ (bE.pure rfl fun ρ=>?_)
 subst hA hU
 exact dI rfl
structure OnF (A:Alg) (U:SU) (V S:List (Int×Int×Int)) (k i:Int):Prop where
 r:A.ite (A.ite (A.ite (A.ite (A.cmp .eql (U.turn (U.ax V (A.get S k (0,0,0)).1) (U.ay V (A.get S k (0,0,0)).1) (U.ax V (A.get S k (0,0,0)).2.1) (U.ay V (A.get S k (0,0,0)).2.1) (U.ax V i) (U.ay V i)) 0)
  (A.cmp .geq (U.ax V i) (A.mn (U.ax V (A.get S k (0,0,0)).1) (U.ax V (A.get S k (0,0,0)).2.1))) false) (A.cmp .leq (U.ax V i) (A.mx (U.ax V (A.get S k (0,0,0)).1) (U.ax V (A.get S k (0,0,0)).2.1))) false)
  (A.cmp .geq (U.ay V i) (A.mn (U.ay V (A.get S k (0,0,0)).1) (U.ay V (A.get S k (0,0,0)).2.1))) false) (A.cmp .leq (U.ay V i) (A.mx (U.ay V (A.get S k (0,0,0)).1) (U.ay V (A.get S k (0,0,0)).2.1))) false=
  U.on V (A.get S k (0,0,0)).1 (A.get S k (0,0,0)).2.1 i
theorem gF (a b:Bool):aA.ite a b false=(a&&b):=by cases a <;> rfl
theorem dR (a b:Bool):aA.ite a true b=(a||b):=by cases a <;> rfl
theorem fG (a b:Int):aA.cmp .eql a b=decide (a=b):=by
 show(a == b)=decide (a=b)
 by_cases h:a=b <;> simp[h]
theorem S1 (A:Alg) (hA:A=aA) (U:SU) (hU:U=bN) (V S:List (Int×Int×Int)) (k i:Int):OnF A U V S k i:=by
 subst hA hU
 refine⟨?_⟩
 show _=onV V _ _ i
 rw[gF,gF,gF,gF]
 unfold onV
 rw[Bool.and_assoc,Bool.and_assoc,Bool.and_assoc,fG]
 rfl
def tD2 (A:Alg) (U:SU):List (Nat×bU):=(96,aR [.g [.s .i3, .s .i3, .s .pt], .a .v] A (Mk U)) :: (137,aC [.v, .v, .v] A (zP U)) :: ([])
theorem Oy:COK Tryz.prog (aN (tD2 aA bN)):=aB Ae (aB Af (bC))
theorem Oa:aJ Tryz.prog 136 (aR [.g [.s .i3, .s .i3, .s .pt], .a .v, .a .v] aA (PZ aA bN)):=by
 refine aW (un:=⟨false,some [0,1,2,3,6,7,8,9]⟩) tok Oy aL (fn:=Tryz.f136) ?_
 intro w Wr args bs r hg ho hWr A L k hA hL hk
 obtain⟨U,hU⟩:=exE bN
 try rw[← hU]
 try rw[← hA]
 unfold PZ at hg
 split at hg <;> cases hg
 rename_i k i V S H
 have o1:=(aG ho).1
 have o2:=(aG (aG ho).2).1
 clear ho
 rw[← hA] at o1 o2
 have f:=S1 A hA U hU V S k i
 cbv
 repeat' with_reducible first | (intro hb;cbv) | refine UM ?_ ?_
 all_goals first | exact o1 | exact o2 | skip
 refine hk _ _ (bW.pure rfl rfl fun ρ=>dB ?_)
 have r:=f.r
 subst hU hA
 exact r
theorem KW:aJ Tryz.prog 135 (aC [.v, .p] aA (Jq bN)):=by
 refine aH (un:=⟨false,some [0,1,3]⟩) tok Oy aL (fn:=Tryz.f135) ?_
 intro w Wr args bs r hg ho hWr A L k hA hL hk
 obtain⟨U,hU⟩:=exE bN
 try rw[← hU]
 try rw[← hA]
 unfold Jq at hg
 split at hg <;> cases hg
 rename_i v a b c
 have e:A.ite (A.cmp .eql v a) true (A.cmp .eql v b)=U.isEnd (a,b,c) v:=by
  subst hA hU
  rw[dR,fG,fG];rfl
 cbv
 refine hk _ _ (bE.pure rfl fun ρ=>dB ?_)
 subst hU
 exact e
def tD3 (A:Alg) (U:SU):List (Nat×bU):=(104,aR [.g [.s .i3, .s .i3, .s .pt], .a .v] A (CX U)) :: (96,aR [.g [.s .i3, .s .i3, .s .pt], .a .v] A (Mk U)) :: (137,aC [.v, .v, .v] A (zP U)) :: (136,aR [.g [.s .i3, .s .i3, .s .pt], .a .v, .a .v] A (PZ A U)) :: (135,aC [.v, .p] A (Jq U)) :: ([])
theorem QP:COK Tryz.prog (aN (tD3 aA bN)):=aB yM (aB Ae (aB Af (aB Oa (aB KW (bC)))))
end Go.Eng
