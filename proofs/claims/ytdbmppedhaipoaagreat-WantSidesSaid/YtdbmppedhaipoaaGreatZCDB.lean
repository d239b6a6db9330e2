
import Derived.Test.YtdbmppedhaipoaaGreatZCellT
import Derived.Test.YtdbmppedhaipoaaGreatSpecU
import Derived.Test.YtdbmppedhaipoaaGreatSpecFA
import Derived.Test.YtdbmppedhaipoaaGreatZCWA
import Derived.Test.YtdbmppedhaipoaaGreatZCRB
import Derived.Test.YtdbmppedhaipoaaGreatZCVA
set_option linter.all false
set_option exponentiation.threshold 3000
set_option maxRecDepth 100000
set_option maxHeartbeats 2000000
namespace Go.Eng
open Go.Proofs
def CX (U:SU):List CV→List Blk→Option LW
 | [.g [.s (.hs 0), .s (.hs 1), .s (.hs 2)], .s (.int .i64 i)],[.vec false .i3 V, .vec false .i3 S, .vec false .pt H]=>some ⟨[], .c (.s (.bool (U.has V i))),[],[]⟩
 | _,_=>none
def Mk (U:SU):List CV→List Blk→Option LW
 | [.g [.s (.hs 0), .s (.hs 1), .s (.hs 2)], .s (.int .i64 i)],[.vec false .i3 V, .vec false .i3 S, .vec false .pt H]=>some ⟨[], .c (.g [.s (.int .i64 (U.ax V i)), .s (.int .i64 (U.ay V i))]),[],[]⟩
 | _,_=>none
def zP (U:SU):List CV→List Blk→Option LR
 | [.g [.s (.int .i64 ax), .s (.int .i64 ay)], .g [.s (.int .i64 bx), .s (.int .i64 by_)], .g [.s (.int .i64 cx), .s (.int .i64 cy)]],[]=>some ⟨[], .c (.s (.int .i64 (U.turn ax ay bx by_ cx cy))),[]⟩
 | _,_=>none
def PZ (A:Alg) (U:SU):List CV→List Blk→Option LW
 | [.g [.s (.hs 0), .s (.hs 1), .s (.hs 2)], .s (.int .i64 k), .s (.int .i64 i)],[.vec false .i3 V, .vec false .i3 S, .vec false .pt H]=>
  some ⟨[A.cmp .leq 0 k,A.cmp .lss k (A.len S)], .c (.s (.bool (U.on V (A.get S k (0,0,0)).1 (A.get S k (0,0,0)).2.1 i))),[],[]⟩
 | _,_=>none
def Jq (U:SU):List CV→List Blk→Option LR
 | [.s (.int .i64 v), .s (.hp 0 0)],[.fix false [.s (.int .i64 a), .s (.int .i64 b), .s (.int .i64 c)]]=>some ⟨[], .c (.s (.bool (U.isEnd (a,b,c) v))),[]⟩
 | _,_=>none
theorem yM:aJ Tryz.prog 104 (aR [.g [.s .i3, .s .i3, .s .pt], .a .v] aA (CX bN)):=by
 refine aW (un:=⟨false,some [0,1,2,4]⟩) tok nF aL (fn:=Tryz.f104) ?_
 intro w Wr args bs r hg ho hWr A L k hA hL hk
 obtain⟨U,hU⟩:=exE bN
 try rw[← hU]
 try rw[← hA]
 unfold CX at hg
 split at hg <;> cases hg
 rename_i i V S H
 have e:A.ite (A.cmp .geq i 0) (A.cmp .lss i (A.len V)) false=U.has V i:=by
  subst hA hU
  show(if decide (i ≥ 0)=true then decide (i < (V.length:Int)) else false)=(decide (0≤i)&&decide (i < (V.length:Int)))
  by_cases h:0≤i <;> simp[h]
 cbv
 refine hk _ _ (bW.pure rfl rfl fun ρ=>dB ?_)
 subst hU
 exact e
structure AtF (A:Alg) (U:SU) (V:List (Int×Int×Int)) (i:Int):Prop where
 no:A.not (U.has V i)=true→0=U.ax V i∧0=U.ay V i
 lo:A.not (U.has V i)=false→A.cmp .leq 0 i=true
 hi:A.not (U.has V i)=false→A.cmp .lss i (A.len V)=true
 ok:A.not (U.has V i)=false→(A.get V i (0,0,0)).1=U.ax V i∧(A.get V i (0,0,0)).2.1=U.ay V i
theorem Sw (A:Alg) (hA:A=aA) (U:SU) (hU:U=bN) (V:List (Int×Int×Int)) (i:Int):AtF A U V i:=by
 subst hA hU
 have e:aA.not (bN.has V i)= !nS V i:=rfl
 have h3:bN.ax V i=if nS V i then(cK V i).1 else 0:=rfl
 have h4:bN.ay V i=if nS V i then(cK V i).2.1 else 0:=rfl
 cases h:nS V i
 ·rw[h] at e h3 h4
  exact⟨fun _=>⟨h3.symm,h4.symm⟩,fun h=>(by rw[e] at h;cases h),fun h=>(by rw[e] at h;cases h),fun h=>(by rw[e] at h;cases h)⟩
 ·rw[h] at e h3 h4
  unfold nS at h
  rw[Bool.and_eq_true] at h
  exact⟨fun h=>(by rw[e] at h;cases h),fun _=>h.1,fun _=>h.2,fun _=>⟨h3.symm,h4.symm⟩⟩
def tD1 (A:Alg) (U:SU):List (Nat×bU):=(104,aR [.g [.s .i3, .s .i3, .s .pt], .a .v] A (CX U)) :: ([])
theorem Ox:COK Tryz.prog (aN (tD1 aA bN)):=aB yM (bC)
theorem Ae:aJ Tryz.prog 96 (aR [.g [.s .i3, .s .i3, .s .pt], .a .v] aA (Mk bN)):=by
 refine aW (un:=⟨false,some [0,1,2,4,8]⟩) tok Ox aL (fn:=Tryz.f96) ?_
 intro w Wr args bs r hg ho hWr A L k hA hL hk
 obtain⟨U,hU⟩:=exE bN
 try rw[← hU]
 try rw[← hA]
 unfold Mk at hg
 split at hg <;> cases hg
 rename_i i V S H
 have f:=Sw A hA U hU V i
 cbv
 repeat' with_reducible first | (intro hb;cbv) | refine UM ?_ ?_
 all_goals first | exact f.lo (by assumption) | exact f.hi (by assumption) | skip
 ·refine hk _ _ (bW.pure rfl rfl fun ρ=>?_)
  have e:=f.no hb
  subst hU
  exact dLL e.1 e.2
 ·refine hk _ _ (bW.pure rfl rfl fun ρ=>?_)
  have e:=f.ok hb
  subst hU
  exact dII e.1 e.2
theorem Af:aJ Tryz.prog 137 (aC [.v, .v, .v] aA (zP bN)):=by
 refine aH (un:=⟨false,some [0,1,2,3,4,5,6,7]⟩) tok Ox aL (fn:=Tryz.f137) ?_
 intro w Wr args bs r hg ho hWr A L k hA hL hk
 obtain⟨U,hU⟩:=exE bN
 try rw[← hU]
 try rw[← hA]
 unfold zP at hg
 split at hg <;> cases hg
 cbv
 refine hk _ _ (bE.pure rfl fun ρ=>?_)
 subst hA hU
 exact dI rfl
structure OnF (A:Alg) (U:SU) (V S:List (Int×Int×Int)) (k i:Int):Prop where
 r:A.ite (A.ite (A.ite (A.ite (A.cmp .eql (U.turn (U.ax V (A.get S k (0,0,0)).1) (U.ay V (A.get S k (0,0,0)).1) (U.ax V (A.get S k (0,0,0)).2.1) (U.ay V (A.get S k (0,0,0)).2.1) (U.ax V i) (U.ay V i)) 0)
  (A.cmp .geq (U.ax V i) (A.mn (U.ax V (A.get S k (0,0,0)).1) (U.ax V (A.get S k (0,0,0)).2.1))) false) (A.cmp .leq (U.ax V i) (A.mx (U.ax V (A.get S k (0,0,0)).1) (U.ax V (A.get S k (0,0,0)).2.1))) false)
  (A.cmp .geq (U.ay V i) (A.mn (U.ay V (A.get S k (0,0,0)).1) (U.ay V (A.get S k (0,0,0)).2.1))) false) (A.cmp .leq (U.ay V i) (A.mx (U.ay V (A.get S k (0,0,0)).1) (U.ay V (A.get S k (0,0,0)).2.1))) false=
  U.on V (A.get S k (0,0,0)).1 (A.get S k (0,0,0)).2.1 i
theorem gF (a b:Bool):aA.ite a b false=(a&&b):=by cases a <;> rfl
theorem dR (a b:Bool):aA.ite a true b=(a||b):=by cases a <;> rfl
theorem fG (a b:Int):aA.cmp .eql a b=decide (a=b):=by
 show(a == b)=decide (a=b)
 by_cases h:a=b <;> simp[h]
theorem S1 (A:Alg) (hA:A=aA) (U:SU) (hU:U=bN) (V S:List (Int×Int×Int)) (k i:Int):OnF A U V S k i:=by
 subst hA hU
 refine⟨?_⟩
 show _=onV V _ _ i
 rw[gF,gF,gF,gF]
 unfold onV
 rw[Bool.and_assoc,Bool.and_assoc,Bool.and_assoc,fG]
 rfl
def tD2 (A:Alg) (U:SU):List (Nat×bU):=(96,aR [.g [.s .i3, .s .i3, .s .pt], .a .v] A (Mk U)) :: (137,aC [.v, .v, .v] A (zP U)) :: ([])
theorem Oy:COK Tryz.prog (aN (tD2 aA bN)):=aB Ae (aB Af (bC))
theorem Oa:aJ Tryz.prog 136 (aR [.g [.s .i3, .s .i3, .s .pt], .a .v, .a .v] aA (PZ aA bN)):=by
 refine aW (un:=⟨false,some [0,1,2,3,6,7,8,9]⟩) tok Oy aL (fn:=Tryz.f136) ?_
 intro w Wr args bs r hg ho hWr A L k hA hL hk
 obtain⟨U,hU⟩:=exE bN
 try rw[← hU]
 try rw[← hA]
 unfold PZ at hg
 split at hg <;> cases hg
 rename_i k i V S H
 have o1:=(aG ho).1
 have o2:=(aG (aG ho).2).1
 clear ho
 rw[← hA] at o1 o2
 have f:=S1 A hA U hU V S k i
 cbv
 repeat' with_reducible first | (intro hb;cbv) | refine UM ?_ ?_
 all_goals first | exact o1 | exact o2 | skip
 refine hk _ _ (bW.pure rfl rfl fun ρ=>dB ?_)
 have r:=f.r
 subst hU hA
 exact r
theorem KW:aJ Tryz.prog 135 (aC [.v, .p] aA (Jq bN)):=by
 refine aH (un:=⟨false,some [0,1,3]⟩) tok Oy aL (fn:=Tryz.f135) ?_
 intro w Wr args bs r hg ho hWr A L k hA hL hk
 obtain⟨U,hU⟩:=exE bN
 try rw[← hU]
 try rw[← hA]
 unfold Jq at hg
 split at hg <;> cases hg
 rename_i v a b c
 have e:A.ite (A.cmp .eql v a) true (A.cmp .eql v b)=U.isEnd (a,b,c) v:=by
  subst hA hU
  rw[dR,fG,fG];rfl
 cbv
 refine hk _ _ (bE.pure rfl fun ρ=>dB ?_)
 subst hU
 exact e
def tD3 (A:Alg) (U:SU):List (Nat×bU):=(104,aR [.g [.s .i3, .s .i3, .s .pt], .a .v] A (CX U)) :: (96,aR [.g [.s .i3, .s .i3, .s .pt], .a .v] A (Mk U)) :: (137,aC [.v, .v, .v] A (zP U)) :: (136,aR [.g [.s .i3, .s .i3, .s .pt], .a .v, .a .v] A (PZ A U)) :: (135,aC [.v, .p] A (Jq U)) :: ([])
theorem QP:COK Tryz.prog (aN (tD3 aA bN)):=aB yM (aB Ae (aB Af (aB Oa (aB KW (bC)))))
def xY (A:Alg) (U:SU):List CV→List Blk→Option LW
 | [.g [.s (.hs 0), .s (.hs 1), .s (.hs 2)], .s (.int .i64 i), .s (.int .i64 j)],[.vec false .i3 V, .vec false .i3 S, .vec false .pt H]=>
  some ⟨[A.cmp .leq 0 i,A.cmp .lss i (A.len S),A.cmp .leq 0 j,A.cmp .lss j (A.len S)], .c (.s (.bool (U.cross V S i j))),[],[]⟩
 | _,_=>none
structure CrV (A:Alg) (U:SU) (V S:List (Int×Int×Int)) (i j:Int) (s t:Int×Int×Int):Prop where
 c1:A.ite (U.isEnd (s.1,s.2.1,s.2.2) t.1) (U.isEnd (s.1,s.2.1,s.2.2) t.2.1) false=true→true=U.cross V S i j
 c2:A.ite (A.ite (U.on V s.1 s.2.1 t.1) (A.not (U.isEnd (s.1,s.2.1,s.2.2) t.1)) false) true (A.ite (U.on V s.1 s.2.1 t.2.1) (A.not (U.isEnd (s.1,s.2.1,s.2.2) t.2.1)) false)=true→true=U.cross V S i j
 c3:A.ite (A.ite (A.ite (U.on V t.1 t.2.1 s.1) (A.cmp .neq s.1 t.1) false) (A.cmp .neq s.1 t.2.1) false) true (A.ite (A.ite (U.on V t.1 t.2.1 s.2.1) (A.cmp .neq s.2.1 t.1) false) (A.cmp .neq s.2.1 t.2.1) false)=true→true=U.cross V S i j
 c4:A.ite (U.isEnd (s.1,s.2.1,s.2.2) t.1) (U.isEnd (s.1,s.2.1,s.2.2) t.2.1) false=false→A.ite (A.ite (U.on V s.1 s.2.1 t.1) (A.not (U.isEnd (s.1,s.2.1,s.2.2) t.1)) false) true (A.ite (U.on V s.1 s.2.1 t.2.1) (A.not (U.isEnd (s.1,s.2.1,s.2.2) t.2.1)) false)=false→A.ite (A.ite (A.ite (U.on V t.1 t.2.1 s.1) (A.cmp .neq s.1 t.1) false) (A.cmp .neq s.1 t.2.1) false) true (A.ite (A.ite (U.on V t.1 t.2.1 s.2.1) (A.cmp .neq s.2.1 t.1) false) (A.cmp .neq s.2.1 t.2.1) false)=false→A.ite (A.cmp .lss (A.bin .mul .i64 (U.turn (U.ax V s.1) (U.ay V s.1) (U.ax V s.2.1) (U.ay V s.2.1) (U.ax V t.1) (U.ay V t.1)) (U.turn (U.ax V s.1) (U.ay V s.1) (U.ax V s.2.1) (U.ay V s.2.1) (U.ax V t.2.1) (U.ay V t.2.1))) 0) (A.cmp .lss (A.bin .mul .i64 (U.turn (U.ax V t.1) (U.ay V t.1) (U.ax V t.2.1) (U.ay V t.2.1) (U.ax V s.1) (U.ay V s.1)) (U.turn (U.ax V t.1) (U.ay V t.1) (U.ax V t.2.1) (U.ay V t.2.1) (U.ax V s.2.1) (U.ay V s.2.1))) 0) false=U.cross V S i j
theorem Kf (a b:Int):aA.cmp .neq a b= !decide (a=b):=by
 show(a != b)= !decide (a=b)
 by_cases h:a=b <;> simp[h]
theorem ab8 (A:Alg) (hA:A=aA) (U:SU) (hU:U=bN) (V S:List (Int×Int×Int)) (i j:Int) (s t:Int×Int×Int) (hs:s=A.get S i (0,0,0)) (ht:t=A.get S j (0,0,0)):CrV A U V S i j s t:=by
 subst hA hU
 have key:bN.cross V S i j=((((aA.ite (bN.isEnd (s.1,s.2.1,s.2.2) t.1) (bN.isEnd (s.1,s.2.1,s.2.2) t.2.1) false)||(aA.ite (aA.ite (bN.on V s.1 s.2.1 t.1) (aA.not (bN.isEnd (s.1,s.2.1,s.2.2) t.1)) false) true (aA.ite (bN.on V s.1 s.2.1 t.2.1) (aA.not (bN.isEnd (s.1,s.2.1,s.2.2) t.2.1)) false)))||(aA.ite (aA.ite (aA.ite (bN.on V t.1 t.2.1 s.1) (aA.cmp .neq s.1 t.1) false) (aA.cmp .neq s.1 t.2.1) false) true (aA.ite (aA.ite (bN.on V t.1 t.2.1 s.2.1) (aA.cmp .neq s.2.1 t.1) false) (aA.cmp .neq s.2.1 t.2.1) false)))||(aA.ite (aA.cmp .lss (aA.bin .mul .i64 (bN.turn (bN.ax V s.1) (bN.ay V s.1) (bN.ax V s.2.1) (bN.ay V s.2.1) (bN.ax V t.1) (bN.ay V t.1)) (bN.turn (bN.ax V s.1) (bN.ay V s.1) (bN.ax V s.2.1) (bN.ay V s.2.1) (bN.ax V t.2.1) (bN.ay V t.2.1))) 0) (aA.cmp .lss (aA.bin .mul .i64 (bN.turn (bN.ax V t.1) (bN.ay V t.1) (bN.ax V t.2.1) (bN.ay V t.2.1) (bN.ax V s.1) (bN.ay V s.1)) (bN.turn (bN.ax V t.1) (bN.ay V t.1) (bN.ax V t.2.1) (bN.ay V t.2.1) (bN.ax V s.2.1) (bN.ay V s.2.1))) 0) false)):=by
  subst hs ht
  simp only[gF,dR,Kf]
  show j4 V S i j=_
  unfold j4
  simp only[Bool.and_assoc]
  rfl
 refine⟨fun h=>?_,fun h=>?_,fun h=>?_,fun h1 h2 h3=>?_⟩
 ·rw[key,h];rfl
 ·rw[key,h,Bool.or_true];rfl
 ·rw[key,h,Bool.or_true];rfl
 ·rw[key,h1,h2,h3];rfl
theorem DY:aJ Tryz.prog 111 (aR [.g [.s .i3, .s .i3, .s .pt], .a .v, .a .v] aA (xY aA bN)):=by
 refine aW (un:=⟨false,some [0,1,2,3,6,7,8,9,10,11,12,13,29,40,69]⟩) tok QP aL (fn:=Tryz.f111) ?_
 intro w Wr args bs r hg ho hWr A L k hA hL hk
 obtain⟨U,hU⟩:=exE bN
 try rw[← hU]
 try rw[← hA]
 unfold xY at hg
 split at hg <;> cases hg
 rename_i i j V S H
 have o1:=(aG ho).1
 have o2:=(aG (aG ho).2).1
 have o3:=(aG (aG (aG ho).2).2).1
 have o4:=(aG (aG (aG (aG ho).2).2).2).1
 clear ho
 have f:=ab8 A hA U hU V S i j _ _ rfl rfl
 rw[← hA] at o1 o2 o3 o4
 have im: ∀ b c,c=true→A.imp b c=true:=fun b c h=>by rw[h];subst hA;cases b <;> rfl
 cbv
 repeat' with_reducible first | (intro hb;cbv) | refine UM ?_ ?_
 all_goals first | exact o1 | exact o2 | exact o3 | exact o4 | exact im _ _ o1 | exact im _ _ o2 | exact im _ _ o3 | exact im _ _ o4 | skip
 all_goals refine hk _ _ (bW.pure rfl rfl fun ρ=>?_)
 ·have e:=f.c1 hb
  subst hU hA
  exact dT e
 ·have e:=f.c2 hb
  subst hU hA
  exact dT e
 ·have e:=f.c3 hb
  subst hU hA
  exact dT e
 ·have e:=f.c4 (by assumption) (by assumption) (by assumption)
  subst hU hA
  exact dB e
def JJ (A:Alg) (H:SH):List CV→List Blk→Option LR
 | [.g [.P p]],[]=>some ⟨[], .c (.s (.bool (A.not (H.all [p])))),[]⟩
 | _,_=>none
def JC (A:Alg):List CV→List Blk→Option LR
 | [.s (.int .i64 n)],[]=>some ⟨[], .c (.s (.bool (A.ite (A.cmp .geq n 0) (A.cmp .leq n 1000000) false))),[]⟩
 | _,_=>none
def gIn (A:Alg) (U:SU):List CV→List Blk→Option LR
 | [.s (.int .i64 n)],[]=>some ⟨[], .c (.s (.bool (A.not (U.outI n)))),[]⟩
 | _,_=>none
def P1 (A:Alg):List CV→List Blk→Option LR
 | [.s (.int .i64 n)],[]=>some ⟨[], .c (.s (.bool (A.cmp .neq n 2))),[]⟩
 | _,_=>none
def JK (U:SU):List CV→List Blk→Option LW
 | [.g [.s (.int .i64 a), .s (.int .i64 b), .s (.int .i64 c)], .s (.hp 0 0)],[.fix false [.s (.fn 106 [])]]=>some ⟨[], .c (.s (.bool (U.out (a,b,c)))),[],[]⟩
 | _,_=>none
def uE0 (A:Alg) (H:SH):List (Nat×bU):=(82,aC [.v] A (C1 H)) :: ([])
theorem Hz:COK Tryz.prog (aN (uE0 aA bD)):=aB DQ (bC)
theorem GN:aJ Tryz.prog 105 (aC [.v] aA (JJ aA bD)):=by
 refine aH (un:=⟨false,some [0,1,2]⟩) tok Hz aL (fn:=Tryz.f105) ?_
 intro w Wr args bs r hg ho hWr A L k hA hL hk
 obtain⟨H,hH⟩:=exE bD
 try rw[← hH]
 try rw[← hA]
 unfold JJ at hg
 split at hg <;> cases hg
 cbv
 refine hk _ _ (bE.pure rfl fun ρ=>dB ?_)
 subst hA hH
 rfl
theorem GL:aJ Tryz.prog 103 (aC [.v] aA (JC aA)):=by
 refine aH (un:=⟨false,some [0,2]⟩) tok Hz aL (fn:=Tryz.f103) ?_
 intro w Wr args bs r hg ho hWr A L k hA hL hk
 obtain⟨H,hH⟩:=exE bD
 try rw[← hH]
 try rw[← hA]
 unfold JC at hg
 split at hg <;> cases hg
 cbv
 refine hk _ _ (bE.pure rfl fun ρ=>dB ?_)
 subst hA
 rfl
theorem N9:aJ Tryz.prog 106 (aC [.v] aA (gIn aA bN)):=by
 refine aH (un:=⟨false,some [0,2]⟩) tok Hz aL (fn:=Tryz.f106) ?_
 intro w Wr args bs r hg ho hWr A L k hA hL hk
 obtain⟨H,hH⟩:=exE bD
 obtain⟨U,hU⟩:=exE bN
 try rw[← hH]
 try rw[← hU]
 try rw[← hA]
 unfold gIn at hg
 split at hg <;> cases hg
 rename_i n
 have e:A.ite (A.cmp .geq n 0) (A.cmp .leq n 64) false=A.not (U.outI n):=by
  subst hA hU
  rw[gF]
  show _= !!(decide (0≤n)&&decide (n≤64))
  rw[Bool.not_not];rfl
 cbv
 refine hk _ _ (bE.pure rfl fun ρ=>dB ?_)
 subst hA hU
 exact e
theorem KX:aJ Tryz.prog 110 (aC [.v] aA (P1 aA)):=by
 refine aH (un:=⟨false,some [0,2]⟩) tok Hz aL (fn:=Tryz.f110) ?_
 intro w Wr args bs r hg ho hWr A L k hA hL hk
 obtain⟨H,hH⟩:=exE bD
 try rw[← hH]
 try rw[← hA]
 unfold P1 at hg
 split at hg <;> cases hg
 cbv
 refine hk _ _ (bE.pure rfl fun ρ=>dB ?_)
 subst hA
 rfl
def uE1 (A:Alg) (U:SU):List (Nat×bU):=(106,aC [.v] A (gIn A U)) :: ([])
theorem Rs:COK Tryz.prog (aN (uE1 aA bN)):=aB N9 (bC)
theorem GO:aJ Tryz.prog 108 (aR [.a .v, .a (.p [.f []])] aA (JK bN)):=by
 refine aW (un:=⟨false,some [0,1,2,3]⟩) tok Rs aL (fn:=Tryz.f108) ?_
 intro w Wr args bs r hg ho hWr A L k hA hL hk
 obtain⟨U,hU⟩:=exE bN
 try rw[← hU]
 try rw[← hA]
 unfold JK at hg
 split at hg <;> cases hg
 rename_i a b c
 have e:A.ite (A.not (A.not (U.outI a))) true (A.not (A.not (U.outI b)))=U.out (a,b,c):=by
  subst hA hU
  rw[dR]
  show(!!bN.outI a|| !!bN.outI b)=_
  rw[Bool.not_not,Bool.not_not];rfl
 cbv
 refine hk _ _ (bW.pure rfl rfl fun ρ=>dB ?_)
 subst hU
 exact e
def Jv (A:Alg) (U:SU):List CV→List Blk→Option LW
 | [.s (.hs 0), .s (.fn 105 [])],[.vec false .pt l]=>some ⟨[A.cmp .lss (A.len l) 1000000], .c (.s (.int .i64 (U.idxP l))),[],[]⟩
 | _,_=>none
def CP (A:Alg) (U:SU):List CV→List Blk→Option LW
 | [.s (.hs 0), .s (.fn 105 [])],[.vec false .pt l]=>some ⟨[A.cmp .lss (A.len l) 1000000], .c (.s (.bool (U.anyP l))),[],[]⟩
 | _,_=>none
def Jw (A:Alg) (U:SU):List CV→List Blk→Option LW
 | [.s (.hs 0), .s (.fn 108 [(1,0)])],[.vec false .i3 l, .fix false [.s (.fn 106 [])]]=>some ⟨[A.cmp .lss (A.len l) 1000000], .c (.s (.int .i64 (U.idxV l))),[],[]⟩
 | _,_=>none
def Jk (A:Alg) (U:SU):List CV→List Blk→Option LW
 | [.s (.hs 0), .s (.fn 108 [(1,0)])],[.vec false .i3 l, .fix false [.s (.fn 106 [])]]=>some ⟨[A.cmp .lss (A.len l) 1000000], .c (.s (.bool (U.anyV l))),[],[]⟩
 | _,_=>none
def Ju (A:Alg) (U:SU):List CV→List Blk→Option LW
 | [.s (.hs 0), .s (.fn 110 [])],[.vec false (.int .i64) l]=>some ⟨[A.cmp .lss (A.len l) 1000000], .c (.s (.int .i64 (U.idxI l))),[],[]⟩
 | _,_=>none
def Jj (A:Alg) (U:SU):List CV→List Blk→Option LW
 | [.s (.hs 0), .s (.fn 110 [])],[.vec false (.int .i64) l]=>some ⟨[A.cmp .lss (A.len l) 1000000], .c (.s (.bool (U.anyI l))),[],[]⟩
 | _,_=>none
def uE2 (A:Alg) (H:SH):List (Nat×bU):=(105,aC [.v] A (JJ A H)) :: ([])
theorem Pj:COK Tryz.prog (aN (uE2 aA bD)):=aB GN (bC)
theorem GH:aJ Tryz.prog 112 (aR [.a (.s .pt), .a (.f [])] aA (Jv aA bN)):=by
 refine aW (un:=⟨false,some [0,1,4,5,7,8,9,16]⟩) tok Pj aL (fn:=Tryz.f112) ?_
 intro w Wr args bs r hg ho hWr A L k hA hL hk
 obtain⟨H,hH⟩:=exE bD
 obtain⟨U,hU⟩:=exE bN
 try rw[← hH]
 try rw[← hU]
 try rw[← hA]
 unfold Jv at hg
 split at hg <;> cases hg
 rename_i l
 have hlen:=(aG ho).1
 simp only[aA,aP,decide_eq_true_eq] at hlen
 have hlen:aY l < 4611686018427387904:=by unfold aY;omega
 clear ho
 have hln:A.len l=aY l:=by subst hA;rfl
 have hp: ∀ k,A.not (H.all [A.get l k ⟨⟨⟨false,A.zD⟩,⟨false,A.zD⟩⟩,⟨⟨false,A.zD⟩,⟨false,A.zD⟩⟩⟩])= !dX [pC l k]:=fun k=>by subst hA hH;rfl
 have i0:AnI (aY l) (fun k=> !dX [pC l k]) 0:=cH (Int.natCast_nonneg _)
 cbv
 refine hL _ _ _ (aQ (un:=⟨false,some [0,1,4,5,7,8,9,16]⟩) tok Pj aL (fun k:Int=>⟨[(8,⟨[], .c (.s (.int .i64 k))⟩),(7,⟨[], .c (.s (.int .i64 (A.len l)))⟩),(4,⟨[], .c (.s (.lit .i64 0))⟩),(1,⟨[], .c (.s (.fn 105 []))⟩),(0,⟨[], .c (.s (.hs 0))⟩)],[(0, .vec false .pt l)],1⟩)
  (fun k=>AnI (aY l) (fun k=> !dX [pC l k]) k) (fun k=>(aY l - k).toNat) 0 i0 ?_ (fun _ i hi=>by have:=hWr i hi;simp at this;show i < 1;omega) ?_)
 ·exact⟨⟨⟨rfl,rfl,fun _=>rfl⟩,⟨rfl,rfl,fun _=>rfl⟩,⟨rfl,rfl,fun _=>rfl⟩,⟨rfl,rfl,fun _=>rfl⟩,⟨rfl,rfl,fun _=>rfl⟩,trivial⟩,⟨aF rfl,trivial⟩,rfl,rfl⟩
 clear i0
 rintro k hI A2 L2 k2 hA2 hL2 hnext hexit hret
 rw[hA, ← hA2] at hln hp
 have st:=fun hb:A2.cmp .lss k (A2.len l)=true=>c9 hI hlen A2 hA2 (by rw[← hln];exact hb)
 have en:=fun hb:A2.cmp .lss k (A2.len l)=false=>eK hI A2 hA2 (by rw[← hln];exact hb)
 clear hI
 rw[hA, ← hA2, ← hH]
 cbv
 repeat' with_reducible first | (intro hb;cbv) | refine UM ?_ ?_
 all_goals first | exact(st hb).o1 | exact hb | skip
 ·rename_i hb0
  rw[hp] at hb
  have e:=(st hb0).ix hb
  apply hret
  clear hexit hnext hret st en
  cbv
  refine hk _ _ (bW.pure rfl rfl fun ρ=>dI ?_)
  exact e.symm
 ·rename_i hb0
  rw[hp] at hb
  refine hnext _ (k+1) ((st hb0).nx hb) (st hb0).ms ?_
  have ead:=(st hb0).ad
  subst hA2 hA
  exact⟨⟨⟨rfl,rfl,leI ead⟩,⟨rfl,rfl,fun _=>rfl⟩,⟨rfl,rfl,fun _=>rfl⟩,⟨rfl,rfl,fun _=>rfl⟩,⟨rfl,rfl,fun _=>rfl⟩,trivial⟩,⟨aF rfl,trivial⟩,rfl,rfl⟩
 ·have e:=(en hb).ix
  apply hexit
  clear hexit hnext hret st en
  cbv
  refine hk _ _ (bW.pure rfl rfl fun ρ=>dL ?_)
  exact e.symm
def uE3 (A:Alg) (U:SU):List (Nat×bU):=(112,aR [.a (.s .pt), .a (.f [])] A (Jv A U)) :: ([])
theorem Ru:COK Tryz.prog (aN (uE3 aA bN)):=aB GH (bC)
theorem Ad:aJ Tryz.prog 74 (aR [.a (.s .pt), .a (.f [])] aA (CP aA bN)):=by
 refine aW (un:=⟨false,some [0,1,4]⟩) tok Ru aL (fn:=Tryz.f74) ?_
 intro w Wr args bs r hg ho hWr A L k hA hL hk
 obtain⟨U,hU⟩:=exE bN
 try rw[← hU]
 try rw[← hA]
 unfold CP at hg
 split at hg <;> cases hg
 rename_i l
 have o1:=(aG ho).1
 rw[← hA] at o1
 clear ho
 have e:A.cmp .geq (U.idxP l) 0=U.anyP l:=by subst hA hU;exact uM (aY l) fun k=> !dX [pC l k]
 cbv
 repeat' with_reducible first | (intro hb;cbv) | refine UM ?_ ?_
 ·exact o1
 refine hk _ _ (bW.pure rfl rfl fun ρ=>dB ?_)
 subst hU
 exact e
def uE4 (A:Alg) (U:SU):List (Nat×bU):=(108,aR [.a .v, .a (.p [.f []])] A (JK U)) :: ([])
theorem Pk:COK Tryz.prog (aN (uE4 aA bN)):=aB GO (bC)
theorem GJ:aJ Tryz.prog 133 (aR [.a (.s .i3), .a (.f [.p [.f []]])] aA (Jw aA bN)):=by
 refine aW (un:=⟨false,some [0,1,4,5,7,8,9,16]⟩) tok Pk aL (fn:=Tryz.f133) ?_
 intro w Wr args bs r hg ho hWr A L k hA hL hk
 obtain⟨U,hU⟩:=exE bN
 try rw[← hU]
 try rw[← hA]
 unfold Jw at hg
 split at hg <;> cases hg
 rename_i l
 have hlen:=(aG ho).1
 simp only[aA,aP,decide_eq_true_eq] at hlen
 have hlen:aY l < 4611686018427387904:=by unfold aY;omega
 clear ho
 have hln:A.len l=aY l:=by subst hA;rfl
 have hp: ∀ k,U.out ((A.get l k (0,0,0)).1,(A.get l k (0,0,0)).2.1,(A.get l k (0,0,0)).2.2)=Fe (cK l k):=fun k=>by subst hA hU;rfl
 have i0:AnI (aY l) (fun k=>Fe (cK l k)) 0:=cH (Int.natCast_nonneg _)
 cbv
 refine hL _ _ _ (aQ (un:=⟨false,some [0,1,4,5,7,8,9,16]⟩) tok Pk aL (fun k:Int=>⟨[(8,⟨[], .c (.s (.int .i64 k))⟩),(7,⟨[], .c (.s (.int .i64 (A.len l)))⟩),(4,⟨[], .c (.s (.lit .i64 0))⟩),(1,⟨[], .c (.s (.fn 108 [(1,0)]))⟩),(0,⟨[], .c (.s (.hs 0))⟩)],[(1, .fix false [.s (.fn 106 [])]),(0, .vec false .i3 l)],2⟩)
  (fun k=>AnI (aY l) (fun k=>Fe (cK l k)) k) (fun k=>(aY l - k).toNat) 0 i0 ?_ (fun _ i hi=>by have:=hWr i hi;simp at this;show i < 2;omega) ?_)
 ·exact⟨⟨⟨rfl,rfl,fun _=>rfl⟩,⟨rfl,rfl,fun _=>rfl⟩,⟨rfl,rfl,fun _=>rfl⟩,⟨rfl,rfl,fun _=>rfl⟩,⟨rfl,rfl,fun _=>rfl⟩,trivial⟩,⟨aF rfl,aF rfl,trivial⟩,rfl,rfl⟩
 clear i0
 rintro k hI A2 L2 k2 hA2 hL2 hnext hexit hret
 rw[hA, ← hA2] at hln hp
 have st:=fun hb:A2.cmp .lss k (A2.len l)=true=>c9 hI hlen A2 hA2 (by rw[← hln];exact hb)
 have en:=fun hb:A2.cmp .lss k (A2.len l)=false=>eK hI A2 hA2 (by rw[← hln];exact hb)
 clear hI
 rw[hA, ← hA2, ← hU]
 cbv
 repeat' with_reducible first | (intro hb;cbv) | refine UM ?_ ?_
 all_goals first | exact(st hb).o1 | exact hb | skip
 ·rename_i hb0
  rw[hp] at hb
  have e:=(st hb0).ix hb
  apply hret
  clear hexit hnext hret st en
  cbv
  refine hk _ _ (bW.pure rfl rfl fun ρ=>dI ?_)
  exact e.symm
 ·rename_i hb0
  rw[hp] at hb
  refine hnext _ (k+1) ((st hb0).nx hb) (st hb0).ms ?_
  have ead:=(st hb0).ad
  subst hA2 hA
  exact⟨⟨⟨rfl,rfl,leI ead⟩,⟨rfl,rfl,fun _=>rfl⟩,⟨rfl,rfl,fun _=>rfl⟩,⟨rfl,rfl,fun _=>rfl⟩,⟨rfl,rfl,fun _=>rfl⟩,trivial⟩,⟨aF rfl,aF rfl,trivial⟩,rfl,rfl⟩
 ·have e:=(en hb).ix
  apply hexit
  clear hexit hnext hret st en
  cbv
  refine hk _ _ (bW.pure rfl rfl fun ρ=>dL ?_)
  exact e.symm
def uE5 (A:Alg) (U:SU):List (Nat×bU):=(133,aR [.a (.s .i3), .a (.f [.p [.f []]])] A (Jw A U)) :: ([])
theorem Rv:COK Tryz.prog (aN (uE5 aA bN)):=aB GJ (bC)
theorem GC:aJ Tryz.prog 107 (aR [.a (.s .i3), .a (.f [.p [.f []]])] aA (Jk aA bN)):=by
 refine aW (un:=⟨false,some [0,1,4]⟩) tok Rv aL (fn:=Tryz.f107) ?_
 intro w Wr args bs r hg ho hWr A L k hA hL hk
 obtain⟨U,hU⟩:=exE bN
 try rw[← hU]
 try rw[← hA]
 unfold Jk at hg
 split at hg <;> cases hg
 rename_i l
 have o1:=(aG ho).1
 rw[← hA] at o1
 clear ho
 have e:A.cmp .geq (U.idxV l) 0=U.anyV l:=by subst hA hU;exact uM (aY l) fun k=>Fe (cK l k)
 cbv
 repeat' with_reducible first | (intro hb;cbv) | refine UM ?_ ?_
 ·exact o1
 refine hk _ _ (bW.pure rfl rfl fun ρ=>dB ?_)
 subst hU
 exact e
theorem F3 (a b:Int):aA.cmp .neq a b=decide (a≠b):=by
 show(a != b)=decide (a≠b)
 by_cases h:a=b <;> simp[h]
def uE6 (A:Alg):List (Nat×bU):=(110,aC [.v] A (P1 A)) :: ([])
theorem Pm:COK Tryz.prog (aN (uE6 aA)):=aB KX (bC)
theorem GG:aJ Tryz.prog 134 (aR [.a (.s (.int .i64)), .a (.f [])] aA (Ju aA bN)):=by
 refine aW (un:=⟨false,some [0,1,4,5,7,8,9,16]⟩) tok Pm aL (fn:=Tryz.f134) ?_
 intro w Wr args bs r hg ho hWr A L k hA hL hk
 obtain⟨U,hU⟩:=exE bN
 try rw[← hU]
 try rw[← hA]
 unfold Ju at hg
 split at hg <;> cases hg
 rename_i l
 have hlen:=(aG ho).1
 simp only[aA,aP,decide_eq_true_eq] at hlen
 have hlen:aY l < 4611686018427387904:=by unfold aY;omega
 clear ho
 have hln:A.len l=aY l:=by subst hA;rfl
 have hp: ∀ k,A.cmp .neq (A.get l k 0) 2=decide (mU l k≠2):=fun k=>by subst hA;rw[F3];rfl
 have i0:AnI (aY l) (fun k=>decide (mU l k≠2)) 0:=cH (Int.natCast_nonneg _)
 cbv
 refine hL _ _ _ (aQ (un:=⟨false,some [0,1,4,5,7,8,9,16]⟩) tok Pm aL (fun k:Int=>⟨[(8,⟨[], .c (.s (.int .i64 k))⟩),(7,⟨[], .c (.s (.int .i64 (A.len l)))⟩),(4,⟨[], .c (.s (.lit .i64 0))⟩),(1,⟨[], .c (.s (.fn 110 []))⟩),(0,⟨[], .c (.s (.hs 0))⟩)],[(0, .vec false (.int .i64) l)],1⟩)
  (fun k=>AnI (aY l) (fun k=>decide (mU l k≠2)) k) (fun k=>(aY l - k).toNat) 0 i0 ?_ (fun _ i hi=>by have:=hWr i hi;simp at this;show i < 1;omega) ?_)
 ·exact⟨⟨⟨rfl,rfl,fun _=>rfl⟩,⟨rfl,rfl,fun _=>rfl⟩,⟨rfl,rfl,fun _=>rfl⟩,⟨rfl,rfl,fun _=>rfl⟩,⟨rfl,rfl,fun _=>rfl⟩,trivial⟩,⟨aF rfl,trivial⟩,rfl,rfl⟩
 clear i0
 rintro k hI A2 L2 k2 hA2 hL2 hnext hexit hret
 rw[hA, ← hA2] at hln hp
 have st:=fun hb:A2.cmp .lss k (A2.len l)=true=>c9 hI hlen A2 hA2 (by rw[← hln];exact hb)
 have en:=fun hb:A2.cmp .lss k (A2.len l)=false=>eK hI A2 hA2 (by rw[← hln];exact hb)
 clear hI
 rw[hA, ← hA2]
 cbv
 repeat' with_reducible first | (intro hb;cbv) | refine UM ?_ ?_
 all_goals first | exact(st hb).o1 | exact hb | skip
 ·rename_i hb0
  rw[hp] at hb
  have e:=(st hb0).ix hb
  apply hret
  clear hexit hnext hret st en
  cbv
  refine hk _ _ (bW.pure rfl rfl fun ρ=>dI ?_)
  exact e.symm
 ·rename_i hb0
  rw[hp] at hb
  refine hnext _ (k+1) ((st hb0).nx hb) (st hb0).ms ?_
  have ead:=(st hb0).ad
  subst hA2 hA
  exact⟨⟨⟨rfl,rfl,leI ead⟩,⟨rfl,rfl,fun _=>rfl⟩,⟨rfl,rfl,fun _=>rfl⟩,⟨rfl,rfl,fun _=>rfl⟩,⟨rfl,rfl,fun _=>rfl⟩,trivial⟩,⟨aF rfl,trivial⟩,rfl,rfl⟩
 ·have e:=(en hb).ix
  apply hexit
  clear hexit hnext hret st en
  cbv
  refine hk _ _ (bW.pure rfl rfl fun ρ=>dL ?_)
  exact e.symm
def uE7 (A:Alg) (U:SU):List (Nat×bU):=(134,aR [.a (.s (.int .i64)), .a (.f [])] A (Ju A U)) :: ([])
theorem Rx:COK Tryz.prog (aN (uE7 aA bN)):=aB GG (bC)
theorem GA:aJ Tryz.prog 109 (aR [.a (.s (.int .i64)), .a (.f [])] aA (Jj aA bN)):=by
 refine aW (un:=⟨false,some [0,1,4]⟩) tok Rx aL (fn:=Tryz.f109) ?_
 intro w Wr args bs r hg ho hWr A L k hA hL hk
 obtain⟨U,hU⟩:=exE bN
 try rw[← hU]
 try rw[← hA]
 unfold Jj at hg
 split at hg <;> cases hg
 rename_i l
 have o1:=(aG ho).1
 rw[← hA] at o1
 clear ho
 have e:A.cmp .geq (U.idxI l) 0=U.anyI l:=by subst hA hU;exact uM (aY l) fun k=>decide (mU l k≠2)
 cbv
 repeat' with_reducible first | (intro hb;cbv) | refine UM ?_ ?_
 ·exact o1
 refine hk _ _ (bW.pure rfl rfl fun ρ=>dB ?_)
 subst hU
 exact e
def sR (U:SU):List CV→List Blk→Option LW
 | [.g [.s (.hs 0), .s (.hs 1), .s (.hs 2)]],[.vec false .i3 V, .vec false .i3 S, .vec false .pt l]=>some ⟨[], .c (.s (.bool (U.form V S l))),[],[]⟩
 | _,_=>none
theorem Fm (l:List Pt):(cY (aY l) fun k=> !dX [pC l k])= !dX l:=by
 have one: ∀ p,dX [p]=dJ p:=fun p=>by show(dJ p&&true)=_;rw[Bool.and_true]
 have get: ∀ i (h:i < l.length),pC l (i:Int)=l[i]:=fun i h=>by
  show(l[(i:Int).toNat]?).getD _=_
  rw[Int.toNat_natCast,List.getElem?_eq_getElem h];rfl
 cases h:dX l
 ·rw[Bool.not_false,mH]
  have h: ¬ (l.all dJ=true):=by rw[show l.all dJ=dX l from rfl,h];simp
  rw[List.all_eq_true] at h
  have h: ∃ x,x∈l∧dJ x=false:=by
   refine Classical.byContradiction fun hn=>h fun x hx=>?_
   cases hp:dJ x
   ·exact absurd ⟨x,hx,hp⟩ hn
   ·rfl
  obtain⟨x,hx,hp⟩:=h
  obtain⟨i,hi,rfl⟩:=List.getElem_of_mem hx
  exact⟨i,by omega,by unfold aY;omega,by rw[get i hi,one,hp];rfl⟩
 ·rw[Bool.not_true,dY]
  intro j h0 h1
  unfold aY at h1
  have hj:j.toNat < l.length:=by omega
  have:=get j.toNat hj
  rw[show((j.toNat:Nat):Int)=j from by omega] at this
  rw[this,one]
  have:=List.all_eq_true.1 h _ (List.getElem_mem hj)
  rw[this];rfl
structure FmF (A:Alg) (U:SU) (V S:List (Int×Int×Int)) (l:List Pt):Prop where
 c1:A.ite (A.ite (A.ite (A.cmp .eql (A.len V) 0) true (A.cmp .gtr (A.len V) 16)) true (A.cmp .gtr (A.len S) 16)) true (A.cmp .gtr (A.len l) 4)=true→false=U.form V S l
 lv:A.ite (A.ite (A.ite (A.cmp .eql (A.len V) 0) true (A.cmp .gtr (A.len V) 16)) true (A.cmp .gtr (A.len S) 16)) true (A.cmp .gtr (A.len l) 4)=false→aY V < 1000∧aY S < 1000∧A.cmp .lss (A.len l) 1000000=true∧
  U.form V S l=(!cY (aY V) (Cd V)&&(!cY (aY S) (zC V S)&&A.not (U.anyP l)))
 pv: ∀ k,A.not (A.ite (A.cmp .geq (A.get V k (0,0,0)).2.2 0) (A.cmp .leq (A.get V k (0,0,0)).2.2 1000000) false)=Cd V k
 ps: ∀ k,A.ite (A.ite (A.ite (A.not (U.has V (A.get S k (0,0,0)).1)) true (A.not (U.has V (A.get S k (0,0,0)).2.1))) true (A.cmp .eql (A.get S k (0,0,0)).1 (A.get S k (0,0,0)).2.1)) true
  (A.not (A.ite (A.cmp .geq (A.get S k (0,0,0)).2.2 0) (A.cmp .leq (A.get S k (0,0,0)).2.2 1000000) false))=zC V S k
theorem SG (A:Alg) (hA:A=aA) (U:SU) (hU:U=bN) (V S:List (Int×Int×Int)) (l:List Pt):FmF A U V S l:=by
 subst hA hU
 have e0:aA.ite (aA.ite (aA.ite (aA.cmp .eql (aA.len V) 0) true (aA.cmp .gtr (aA.len V) 16)) true (aA.cmp .gtr (aA.len S) 16)) true (aA.cmp .gtr (aA.len l) 4)=pB V S l:=by
  rw[dR,dR,dR,fG,Bool.or_assoc,Bool.or_assoc];rfl
 have ef:bN.form V S l=(!pB V S l&&(!cY (aY V) (Cd V)&&(!cY (aY S) (zC V S)&&aA.not (bN.anyP l)))):=by
  show iO V S l=_
  unfold iO
  have:bN.anyP l= !dX l:=Fm l
  rw[this]
  show _=(_&&(_&&(_&& !!dX l)))
  rw[Bool.not_not]
 refine⟨fun h=>?_,fun h=>?_,fun k=>?_,fun k=>?_⟩
 ·rw[e0] at h;rw[ef,h];rfl
 ·rw[e0] at h
  refine⟨?_,?_,?_,by rw[ef,h];rfl⟩
  all_goals (unfold pB at h;simp only[Bool.or_eq_false_iff,decide_eq_false_iff_not] at h)
  ·omega
  ·omega
  ·have h4:=h.2.2.2
   unfold aY at h4
   exact bH _ rfl _ _ (by show(l.length:Int) < 1000000;omega)
 ·rw[gF];rfl
 ·rw[dR,dR,dR,gF,fG,Bool.or_assoc,Bool.or_assoc];rfl
def uE9 (A:Alg) (U:SU):List (Nat×bU):=(104,aR [.g [.s .i3, .s .i3, .s .pt], .a .v] A (CX U)) :: (74,aR [.a (.s .pt), .a (.f [])] A (CP A U)) :: (103,aC [.v] A (JC A)) :: ([])
theorem Mg:COK Tryz.prog (aN (uE9 aA bN)):=aB yM (aB Ad (aB GL (bC)))
theorem GD:aJ Tryz.prog 69 (aR [.g [.s .i3, .s .i3, .s .pt]] aA (sR bN)):=by
 refine aW (un:=⟨false,some [0,1,2,3,5,7,37,41,42,43,44,51,56,57,58,59,89]⟩) tok Mg aL (fn:=Tryz.f69) ?_
 intro w Wr args bs r hg ho hWr A L k hA hL hk
 obtain⟨U,hU⟩:=exE bN
 try rw[← hU]
 try rw[← hA]
 unfold sR at hg
 split at hg <;> cases hg
 rename_i V S l
 have f:=SG A hA U hU V S l
 have hlv:A.len V=aY V:=by subst hA;rfl
 have hls:A.len S=aY S:=by subst hA;rfl
 have i0:AnI (aY V) (Cd V) 0:=cH (Int.natCast_nonneg _)
 have i1:AnI (aY S) (zC V S) 0:=cH (Int.natCast_nonneg _)
 clear ho
 cbv
 repeat' with_reducible first | (intro hb;cbv) | refine UM ?_ ?_
 ·refine hk _ _ (bW.pure rfl rfl fun ρ=>?_)
  have e:=f.c1 hb
  subst hU
  exact dT e
 obtain⟨lv,ls,ll,er⟩:=f.lv hb
 have pv:=f.pv
 have ps:=f.ps
 clear f hb
 refine hL _ _ _ (aQ (un:=⟨false,some [0,1,2,3,5,7,37,41,42,43,44,51,56,57,58,59,89]⟩) tok Mg aL (fun k:Int=>⟨[(43,⟨[], .c (.s (.int .i64 k))⟩),(42,⟨[], .c (.s (.int .i64 (A.len V)))⟩),(41,⟨[], .c (.s (.hs 0))⟩),(3,⟨[], .c (.s (.fn 103 []))⟩),(2,⟨[], .c (.s (.tt false))⟩),(1,⟨[], .c (.s (.hp 3 0))⟩)],[(3, .fix true [.s (.hs 0), .s (.hs 1), .s (.hs 2)]),(0, .vec false .i3 V),(1, .vec false .i3 S),(2, .vec false .pt l)],4⟩)
  (fun k=>AnI (aY V) (Cd V) k) (fun k=>(aY V - k).toNat) 0 i0 ?_ (fun _ i hi=>by have:=hWr i hi;simp at this;show i < 4;omega) ?_)
 ·exact⟨⟨⟨rfl,rfl,fun _=>rfl⟩,⟨rfl,rfl,fun _=>rfl⟩,⟨rfl,rfl,fun _=>rfl⟩,⟨rfl,rfl,fun _=>rfl⟩,⟨rfl,rfl,fun _=>rfl⟩,⟨rfl,rfl,fun _=>rfl⟩,trivial⟩,⟨aF rfl,aF rfl,aF rfl,aF rfl,trivial⟩,rfl,rfl⟩
 clear i0
 rintro k hI A2 L2 k2 hA2 hL2 hnext hexit hret
 have hlv2:=hlv
 rw[hA, ← hA2] at hlv2 pv
 have st:=fun hb:A2.cmp .lss k (A2.len V)=true=>c9 hI (by omega) A2 hA2 (by rw[← hlv2];exact hb)
 have en:=fun hb:A2.cmp .lss k (A2.len V)=false=>eK hI A2 hA2 (by rw[← hlv2];exact hb)
 clear hI
 rw[hA, ← hA2, ← hU]
 cbv
 repeat' with_reducible first | (intro hb;cbv) | refine UM ?_ ?_
 all_goals first | exact(st hb).o1 | exact hb | skip
 ·rename_i hb0
  rw[pv] at hb
  have e:=(st hb0).ht hb
  apply hret
  clear hexit hnext hret st en
  cbv
  refine hk _ _ (bW.pure rfl rfl fun ρ=>dT ?_)
  rw[e] at er
  subst hU
  exact er.symm
 ·rename_i hb0
  rw[pv] at hb
  refine hnext _ (k+1) ((st hb0).nx hb) (st hb0).ms ?_
  have ead:=(st hb0).ad
  subst hA2 hA
  exact⟨⟨⟨rfl,rfl,leI ead⟩,⟨rfl,rfl,fun _=>rfl⟩,⟨rfl,rfl,fun _=>rfl⟩,⟨rfl,rfl,fun _=>rfl⟩,⟨rfl,rfl,fun _=>rfl⟩,⟨rfl,rfl,fun _=>rfl⟩,trivial⟩,⟨aF rfl,aF rfl,aF rfl,aF rfl,trivial⟩,rfl,rfl⟩
 have ev:=(en hb).no
 apply hexit
 clear hexit hnext hret st en pv hlv2
 rw[ev] at er
 clear ev hb hL2
 cbv
 refine hL _ _ _ (aQ (un:=⟨false,some [0,1,2,3,5,7,37,41,42,43,44,51,56,57,58,59,89]⟩) tok Mg aL (fun k:Int=>⟨[(58,⟨[], .c (.s (.int .i64 k))⟩),(57,⟨[], .c (.s (.int .i64 (A.len S)))⟩),(56,⟨[], .c (.s (.hs 1))⟩),(3,⟨[], .c (.s (.fn 103 []))⟩),(2,⟨[], .c (.s (.tt false))⟩),(1,⟨[], .c (.s (.hp 3 0))⟩)],[(3, .fix true [.s (.hs 0), .s (.hs 1), .s (.hs 2)]),(0, .vec false .i3 V),(1, .vec false .i3 S),(2, .vec false .pt l)],4⟩)
  (fun k=>AnI (aY S) (zC V S) k) (fun k=>(aY S - k).toNat) 0 i1 ?_ (fun _ i hi=>by have:=hWr i hi;simp at this;show i < 4;omega) ?_)
 ·exact⟨⟨⟨rfl,rfl,fun _=>rfl⟩,⟨rfl,rfl,fun _=>rfl⟩,⟨rfl,rfl,fun _=>rfl⟩,⟨rfl,rfl,fun _=>rfl⟩,⟨rfl,rfl,fun _=>rfl⟩,⟨rfl,rfl,fun _=>rfl⟩,trivial⟩,⟨aF rfl,aF rfl,aF rfl,aF rfl,trivial⟩,rfl,rfl⟩
 clear i1
 rintro k hI A2 L2 k2 hA2 hL2 hnext hexit hret
 have hls2:=hls
 rw[hA, ← hA2] at hls2 ps
 have st:=fun hb:A2.cmp .lss k (A2.len S)=true=>c9 hI (by omega) A2 hA2 (by rw[← hls2];exact hb)
 have en:=fun hb:A2.cmp .lss k (A2.len S)=false=>eK hI A2 hA2 (by rw[← hls2];exact hb)
 clear hI
 rw[hA, ← hA2, ← hU]
 cbv
 repeat' with_reducible first | (intro hb;cbv) | refine UM ?_ ?_
 all_goals first | exact(st hb).o1 | exact hb | skip
 ·rename_i hb0
  rw[ps] at hb
  have e:=(st hb0).ht hb
  apply hret
  clear hexit hnext hret st en
  cbv
  refine hk _ _ (bW.pure rfl rfl fun ρ=>dT ?_)
  rw[e] at er
  subst hU
  exact er.symm
 ·rename_i hb0
  rw[ps] at hb
  refine hnext _ (k+1) ((st hb0).nx hb) (st hb0).ms ?_
  have ead:=(st hb0).ad
  subst hA2 hA
  exact⟨⟨⟨rfl,rfl,leI ead⟩,⟨rfl,rfl,fun _=>rfl⟩,⟨rfl,rfl,fun _=>rfl⟩,⟨rfl,rfl,fun _=>rfl⟩,⟨rfl,rfl,fun _=>rfl⟩,⟨rfl,rfl,fun _=>rfl⟩,trivial⟩,⟨aF rfl,aF rfl,aF rfl,aF rfl,trivial⟩,rfl,rfl⟩
 have ev:=(en hb).no
 apply hexit
 clear hexit hnext hret st en ps hls2
 rw[ev] at er
 clear ev hb hL2
 cbv
 repeat' with_reducible first | (intro hb;cbv) | refine UM ?_ ?_
 ·exact ll
 refine hk _ _ (bW.pure rfl rfl fun ρ=>dB ?_)
 subst hU
 exact er.symm
def xT (A:Alg) (U:SU):List CV→List Blk→Option LW
 | [.g [.s (.hs 0), .s (.hs 1), .s (.hs 2)]],[.vec false .i3 V, .vec false .i3 S, .vec false .pt l]=>some ⟨[A.cmp .lss (A.len V) 1000000], .c (.s (.bool (U.bound V))),[],[]⟩
 | _,_=>none
def Db (A:Alg) (U:SU):List CV→List Blk→Option LW
 | [.g [.s (.hs 0), .s (.hs 1), .s (.hs 2)]],[.vec false .i3 V, .vec false .i3 S, .vec false .pt l]=>some ⟨[A.cmp .lss (A.len V) 1000000], .c (.s (.bool (U.twin V))),[],[]⟩
 | _,_=>none
def qM (A:Alg) (U:SU):List CV→List Blk→Option LW
 | [.g [.s (.hs 0), .s (.hs 1), .s (.hs 2)]],[.vec false .i3 V, .vec false .i3 S, .vec false .pt l]=>some ⟨[A.cmp .lss (A.len S) 1000000], .c (.s (.bool (U.crossed V S))),[],[]⟩
 | _,_=>none
def uA0 (A:Alg) (U:SU):List (Nat×bU):=(107,aR [.a (.s .i3), .a (.f [.p [.f []]])] A (Jk A U)) :: ([])
theorem Rj:COK Tryz.prog (aN (uA0 aA bN)):=aB GC (bC)
theorem DX:aJ Tryz.prog 70 (aR [.g [.s .i3, .s .i3, .s .pt]] aA (xT aA bN)):=by
 refine aW (un:=⟨false,some [0,1,2,3]⟩) tok Rj aL (fn:=Tryz.f70) ?_
 intro w Wr args bs r hg ho hWr A L k hA hL hk
 obtain⟨U,hU⟩:=exE bN
 try rw[← hU]
 try rw[← hA]
 unfold xT at hg
 split at hg <;> cases hg
 rename_i V S l
 have o1:=(aG ho).1
 rw[← hA] at o1
 clear ho
 have e:A.not (U.anyV V)=U.bound V:=by subst hA hU;rfl
 cbv
 repeat' with_reducible first | (intro hb;cbv) | refine UM ?_ ?_
 ·exact o1
 refine hk _ _ (bW.pure rfl rfl fun ρ=>dB ?_)
 subst hU
 exact e
def uA1 (A:Alg) (U:SU):List (Nat×bU):=(96,aR [.g [.s .i3, .s .i3, .s .pt], .a .v] A (Mk U)) :: ([])
theorem Mb:COK Tryz.prog (aN (uA1 aA bN)):=aB Ae (bC)
theorem GP:aJ Tryz.prog 71 (aR [.g [.s .i3, .s .i3, .s .pt]] aA (Db aA bN)):=by
 refine aW (un:=⟨false,some [0,1,2,3,4,9,10,11,13,14,15,25]⟩) tok Mb aL (fn:=Tryz.f71) ?_
 intro w Wr args bs r hg ho hWr A L k hA hL hk
 obtain⟨U,hU⟩:=exE bN
 try rw[← hU]
 try rw[← hA]
 unfold Db at hg
 split at hg <;> cases hg
 rename_i V S l
 have hlen:=(aG ho).1
 simp only[aA,aP,decide_eq_true_eq] at hlen
 have hlen:aY V < 1000000:=by unfold aY;omega
 clear ho
 have hlv:A.len V=aY V:=by subst hA;rfl
 have hp: ∀ i j,A.and (A.cmp .eql (U.ax V i) (U.ax V j)) (A.cmp .eql (U.ay V i) (U.ay V j))=vE V i j:=fun i j=>by subst hA hU;rw[fG,fG];rfl
 have i0:AnI (aY V) (fun i=>cY i fun j=>vE V i j) 0:=cH (Int.natCast_nonneg _)
 have er:cY (aY V) (fun i=>cY i fun j=>vE V i j)=U.twin V:=by subst hU;rfl
 cbv
 refine hL _ _ _ (aQ (un:=⟨false,some [0,1,2,3,4,9,10,11,13,14,15,25]⟩) tok Mb aL (fun k:Int=>⟨[(10,⟨[], .c (.s (.int .i64 k))⟩),(9,⟨[], .c (.s (.int .i64 (A.len V)))⟩),(2,⟨[], .c (.s (.tt false))⟩),(1,⟨[], .c (.s (.hp 3 0))⟩)],[(3, .fix true [.s (.hs 0), .s (.hs 1), .s (.hs 2)]),(0, .vec false .i3 V),(1, .vec false .i3 S),(2, .vec false .pt l)],4⟩)
  (fun k=>AnI (aY V) (fun i=>cY i fun j=>vE V i j) k) (fun k=>(aY V - k).toNat) 0 i0 ?_ (fun _ i hi=>by have:=hWr i hi;simp at this;show i < 4;omega) ?_)
 ·exact⟨⟨⟨rfl,rfl,fun _=>rfl⟩,⟨rfl,rfl,fun _=>rfl⟩,⟨rfl,rfl,fun _=>rfl⟩,⟨rfl,rfl,fun _=>rfl⟩,trivial⟩,⟨aF rfl,aF rfl,aF rfl,aF rfl,trivial⟩,rfl,rfl⟩
 clear i0
 rintro i hI A2 L2 k2 hA2 hL2 hnext hexit hret
 rw[hA, ← hA2] at hlv hp
 have st:=fun hb:A2.cmp .lss i (A2.len V)=true=>c9 hI (by omega) A2 hA2 (by rw[← hlv];exact hb)
 have en:=fun hb:A2.cmp .lss i (A2.len V)=false=>eK hI A2 hA2 (by rw[← hlv];exact hb)
 have hi1:=hI.k1
 have j0:AnI i (fun j=>vE V i j) 0:=cH hI.k0
 clear hI
 rw[hA, ← hA2, ← hU]
 cbv
 repeat' with_reducible first | (intro hb;cbv) | refine UM ?_ ?_
 ·have st:=st hb
  clear en hb
  refine hL2 _ _ _ (aQ (un:=⟨false,some [0,1,2,3,4,9,10,11,13,14,15,25]⟩) tok Mb aL (fun j:Int=>⟨[(14,⟨[], .c (.s (.int .i64 j))⟩),(13,⟨[], .c (.s (.int .i64 i))⟩),(3,⟨[], .c (.s (.int .i64 i))⟩),(10,⟨[], .c (.s (.int .i64 i))⟩),(9,⟨[], .c (.s (.int .i64 (A2.len V)))⟩),(2,⟨[], .c (.s (.tt false))⟩),(1,⟨[], .c (.s (.hp 3 0))⟩)],[(3, .fix true [.s (.hs 0), .s (.hs 1), .s (.hs 2)]),(0, .vec false .i3 V),(1, .vec false .i3 S),(2, .vec false .pt l)],4⟩)
   (fun j=>AnI i (fun j=>vE V i j) j) (fun j=>(i - j).toNat) 0 j0 ?_ (fun _ i hi=>by have:=hWr i hi;simp at this;show i < 4;omega) ?_)
  ·exact⟨⟨⟨rfl,rfl,fun _=>rfl⟩,⟨rfl,rfl,fun _=>rfl⟩,⟨rfl,rfl,fun _=>rfl⟩,⟨rfl,rfl,fun _=>rfl⟩,⟨rfl,rfl,fun _=>rfl⟩,⟨rfl,rfl,fun _=>rfl⟩,⟨rfl,rfl,fun _=>rfl⟩,trivial⟩,⟨aF rfl,aF rfl,aF rfl,aF rfl,trivial⟩,rfl,rfl⟩
  clear j0
  rintro j hJ A3 L3 k3 hA3 hL3 hnext3 hexit3 hret3
  rw[hA2, ← hA3] at hp
  have st3:=fun hb:A3.cmp .lss j i=true=>c9 hJ (by omega) A3 hA3 hb
  have en3:=fun hb:A3.cmp .lss j i=false=>eK hJ A3 hA3 hb
  clear hJ
  rw[hA2, ← hA3, ← hU]
  cbv
  repeat' with_reducible first | (intro hb;cbv) | refine UM ?_ ?_
  ·rename_i hb0
   rw[hp] at hb
   have e:=st.ht ((st3 hb0).ht hb)
   apply hret3
   clear hexit3 hnext3 hret3 st3 en3
   cbv
   apply hret
   clear hexit hnext hret st
   cbv
   refine hk _ _ (bW.pure rfl rfl fun ρ=>dT ?_)
   rw[e] at er
   subst hU
   exact er
  ·rename_i hb0
   rw[hp] at hb
   refine hnext3 _ (j+1) ((st3 hb0).nx hb) (st3 hb0).ms ?_
   have ead:=(st3 hb0).ad
   subst hA3 hA2 hA
   exact⟨⟨⟨rfl,rfl,leI ead⟩,⟨rfl,rfl,fun _=>rfl⟩,⟨rfl,rfl,fun _=>rfl⟩,⟨rfl,rfl,fun _=>rfl⟩,⟨rfl,rfl,fun _=>rfl⟩,⟨rfl,rfl,fun _=>rfl⟩,⟨rfl,rfl,fun _=>rfl⟩,trivial⟩,⟨aF rfl,aF rfl,aF rfl,aF rfl,trivial⟩,rfl,rfl⟩
  ·have ev:=(en3 hb).no
   apply hexit3
   clear hexit3 hnext3 hret3 st3 en3
   cbv
   refine hnext _ (i+1) (st.nx ev) st.ms ?_
   have ead:=st.ad
   subst hA3 hA2 hA
   exact⟨⟨⟨rfl,rfl,leI ead⟩,⟨rfl,rfl,fun _=>rfl⟩,⟨rfl,rfl,fun _=>rfl⟩,⟨rfl,rfl,fun _=>rfl⟩,trivial⟩,⟨aF rfl,aF rfl,aF rfl,aF rfl,trivial⟩,rfl,rfl⟩
 ·have e:=(en hb).no
  apply hexit
  clear hexit hnext hret st en
  cbv
  refine hk _ _ (bW.pure rfl rfl fun ρ=>dT ?_)
  rw[e] at er
  subst hU
  exact er
def uA2 (A:Alg) (U:SU):List (Nat×bU):=(111,aR [.g [.s .i3, .s .i3, .s .pt], .a .v, .a .v] A (xY A U)) :: ([])
theorem Mc:COK Tryz.prog (aN (uA2 aA bN)):=aB DY (bC)
theorem yL:aJ Tryz.prog 73 (aR [.g [.s .i3, .s .i3, .s .pt]] aA (qM aA bN)):=by
 refine aW (un:=⟨false,some [0,1,2,3,4,9,10,11,13,14,15,20]⟩) tok Mc aL (fn:=Tryz.f73) ?_
 intro w Wr args bs r hg ho hWr A L k hA hL hk
 obtain⟨U,hU⟩:=exE bN
 try rw[← hU]
 try rw[← hA]
 unfold qM at hg
 split at hg <;> cases hg
 rename_i V S l
 have hlen:=(aG ho).1
 simp only[aA,aP,decide_eq_true_eq] at hlen
 have hlen:aY S < 1000000:=by unfold aY;omega
 clear ho
 have hlv:A.len S=aY S:=by subst hA;rfl
 have hp: ∀ i j,U.cross V S i j=j4 V S i j:=fun i j=>by subst hU;rfl
 have i0:AnI (aY S) (fun i=>cY i fun j=>j4 V S i j) 0:=cH (Int.natCast_nonneg _)
 have er:cY (aY S) (fun i=>cY i fun j=>j4 V S i j)=U.crossed V S:=by subst hU;rfl
 cbv
 refine hL _ _ _ (aQ (un:=⟨false,some [0,1,2,3,4,9,10,11,13,14,15,20]⟩) tok Mc aL (fun k:Int=>⟨[(10,⟨[], .c (.s (.int .i64 k))⟩),(9,⟨[], .c (.s (.int .i64 (A.len S)))⟩),(2,⟨[], .c (.s (.tt false))⟩),(1,⟨[], .c (.s (.hp 3 0))⟩)],[(3, .fix true [.s (.hs 0), .s (.hs 1), .s (.hs 2)]),(0, .vec false .i3 V),(1, .vec false .i3 S),(2, .vec false .pt l)],4⟩)
  (fun k=>AnI (aY S) (fun i=>cY i fun j=>j4 V S i j) k) (fun k=>(aY S - k).toNat) 0 i0 ?_ (fun _ i hi=>by have:=hWr i hi;simp at this;show i < 4;omega) ?_)
 ·exact⟨⟨⟨rfl,rfl,fun _=>rfl⟩,⟨rfl,rfl,fun _=>rfl⟩,⟨rfl,rfl,fun _=>rfl⟩,⟨rfl,rfl,fun _=>rfl⟩,trivial⟩,⟨aF rfl,aF rfl,aF rfl,aF rfl,trivial⟩,rfl,rfl⟩
 clear i0
 rintro i hI A2 L2 k2 hA2 hL2 hnext hexit hret
 rw[hA, ← hA2] at hlv
 have st:=fun hb:A2.cmp .lss i (A2.len S)=true=>c9 hI (by omega) A2 hA2 (by rw[← hlv];exact hb)
 have en:=fun hb:A2.cmp .lss i (A2.len S)=false=>eK hI A2 hA2 (by rw[← hlv];exact hb)
 have hi1:=hI.k1
 have j0:AnI i (fun j=>j4 V S i j) 0:=cH hI.k0
 clear hI
 rw[hA, ← hA2, ← hU]
 cbv
 repeat' with_reducible first | (intro hb;cbv) | refine UM ?_ ?_
 ·have hbi:=hb
  have st:=st hb
  clear en hb
  refine hL2 _ _ _ (aQ (un:=⟨false,some [0,1,2,3,4,9,10,11,13,14,15,20]⟩) tok Mc aL (fun j:Int=>⟨[(14,⟨[], .c (.s (.int .i64 j))⟩),(13,⟨[], .c (.s (.int .i64 i))⟩),(3,⟨[], .c (.s (.int .i64 i))⟩),(10,⟨[], .c (.s (.int .i64 i))⟩),(9,⟨[], .c (.s (.int .i64 (A2.len S)))⟩),(2,⟨[], .c (.s (.tt false))⟩),(1,⟨[], .c (.s (.hp 3 0))⟩)],[(3, .fix true [.s (.hs 0), .s (.hs 1), .s (.hs 2)]),(0, .vec false .i3 V),(1, .vec false .i3 S),(2, .vec false .pt l)],4⟩)
   (fun j=>AnI i (fun j=>j4 V S i j) j) (fun j=>(i - j).toNat) 0 j0 ?_ (fun _ i hi=>by have:=hWr i hi;simp at this;show i < 4;omega) ?_)
  ·exact⟨⟨⟨rfl,rfl,fun _=>rfl⟩,⟨rfl,rfl,fun _=>rfl⟩,⟨rfl,rfl,fun _=>rfl⟩,⟨rfl,rfl,fun _=>rfl⟩,⟨rfl,rfl,fun _=>rfl⟩,⟨rfl,rfl,fun _=>rfl⟩,⟨rfl,rfl,fun _=>rfl⟩,trivial⟩,⟨aF rfl,aF rfl,aF rfl,aF rfl,trivial⟩,rfl,rfl⟩
  clear j0
  rintro j hJ A3 L3 k3 hA3 hL3 hnext3 hexit3 hret3
  have st3:=fun hb:A3.cmp .lss j i=true=>c9 hJ (by omega) A3 hA3 hb
  have en3:=fun hb:A3.cmp .lss j i=false=>eK hJ A3 hA3 hb
  have hbj:A3.cmp .lss j i=true→A3.cmp .lss j (A3.len S)=true:=fun hb=>by
   subst hA3 hA2
   have h1:i < aY S:=of_decide_eq_true hbi
   have h2:j < i:=of_decide_eq_true hb
   exact bH _ rfl _ _ (by show j < aY S;omega)
  have oi:A3.cmp .leq 0 i=true:=by rw[hA3, ← hA2];exact st.o1
  have hbi3:A3.cmp .lss i (A3.len S)=true:=by rw[hA3, ← hA2];exact hbi
  clear hJ
  rw[hA2, ← hA3, ← hU]
  cbv
  repeat' with_reducible first | (intro hb;cbv) | refine UM ?_ ?_
  all_goals first | exact oi | exact hbi3 | exact(st3 hb).o1 | exact hbj hb | skip
  ·rename_i hb0
   rw[hp] at hb
   have e:=st.ht ((st3 hb0).ht hb)
   apply hret3
   clear hexit3 hnext3 hret3 st3 en3
   cbv
   apply hret
   clear hexit hnext hret st
   cbv
   refine hk _ _ (bW.pure rfl rfl fun ρ=>dT ?_)
   rw[e] at er
   subst hU
   exact er
  ·rename_i hb0
   rw[hp] at hb
   refine hnext3 _ (j+1) ((st3 hb0).nx hb) (st3 hb0).ms ?_
   have ead:=(st3 hb0).ad
   subst hA3 hA2 hA
   exact⟨⟨⟨rfl,rfl,leI ead⟩,⟨rfl,rfl,fun _=>rfl⟩,⟨rfl,rfl,fun _=>rfl⟩,⟨rfl,rfl,fun _=>rfl⟩,⟨rfl,rfl,fun _=>rfl⟩,⟨rfl,rfl,fun _=>rfl⟩,⟨rfl,rfl,fun _=>rfl⟩,trivial⟩,⟨aF rfl,aF rfl,aF rfl,aF rfl,trivial⟩,rfl,rfl⟩
  ·have ev:=(en3 hb).no
   apply hexit3
   clear hexit3 hnext3 hret3 st3 en3
   cbv
   refine hnext _ (i+1) (st.nx ev) st.ms ?_
   have ead:=st.ad
   subst hA3 hA2 hA
   exact⟨⟨⟨rfl,rfl,leI ead⟩,⟨rfl,rfl,fun _=>rfl⟩,⟨rfl,rfl,fun _=>rfl⟩,⟨rfl,rfl,fun _=>rfl⟩,trivial⟩,⟨aF rfl,aF rfl,aF rfl,aF rfl,trivial⟩,rfl,rfl⟩
 ·have e:=(en hb).no
  apply hexit
  clear hexit hnext hret st en
  cbv
  refine hk _ _ (bW.pure rfl rfl fun ρ=>dT ?_)
  rw[e] at er
  subst hU
  exact er
def uJ (A:Alg) (U:SU):List CV→List Blk→Option LW
 | [.g [.s (.hs 0), .s (.hs 1), .s (.hs 2)]],[.vec false .i3 V, .vec false .i3 S, .vec false .pt l]=>some ⟨[U.form V S l], .c (.s (.bool (U.looped V S))),[],[]⟩
 | _,_=>none
theorem uB (V S:List (Int×Int×Int)): ∀ k,(jA V S k).length=V.length
 | 0=>by simp[jA]
 | k+1=>by
  show(zT (zT (jA V S k) _) _).length=_
  have h: ∀ (l:List Int) i,(zT l i).length=l.length:=fun l i=>by show(List.set _ _ _).length=_;simp
  rw[h,h,uB V S k]
structure LdI (S:List (Int×Int×Int)) (k:Int):Prop where
 k0:0≤k
 k1:k≤aY S
structure LdS (A:Alg) (U:SU) (V S:List (Int×Int×Int)) (k:Int):Prop where
 o1:A.cmp .leq 0 k=true
 a0:A.cmp .leq 0 (A.get S k (0,0,0)).1=true
 a1:A.cmp .lss (A.get S k (0,0,0)).1 (A.len (U.ends V S k))=true
 b0:A.cmp .leq 0 (A.get S k (0,0,0)).2.1=true
 b1:A.cmp .lss (A.get S k (0,0,0)).2.1 (A.len (A.set (U.ends V S k) (A.get S k (0,0,0)).1 (A.bin .add .i64 (A.get (U.ends V S k) (A.get S k (0,0,0)).1 0) 1)))=true
 nx:A.set (A.set (U.ends V S k) (A.get S k (0,0,0)).1 (A.bin .add .i64 (A.get (U.ends V S k) (A.get S k (0,0,0)).1 0) 1)) (A.get S k (0,0,0)).2.1
  (A.bin .add .i64 (A.get (A.set (U.ends V S k) (A.get S k (0,0,0)).1 (A.bin .add .i64 (A.get (U.ends V S k) (A.get S k (0,0,0)).1 0) 1)) (A.get S k (0,0,0)).2.1 0) 1)=U.ends V S (k+1)
 I:LdI S (k+1)
 ad:A.bin .add .i64 k 1=k+1
 ms:(aY S - (k+1)).toNat < (aY S - k).toNat
theorem JX {V S:List (Int×Int×Int)} {l:List Pt} (hf:iO V S l=true) {k:Int} (hI:LdI S k) (A:Alg) (hA:A=aA) (U:SU) (hU:U=bN) (hb:A.cmp .lss k (A.len S)=true):LdS A U V S k:=by
 subst hA hU
 have hb:k < aY S:=of_decide_eq_true hb
 obtain⟨k0,k1⟩:=hI
 unfold iO at hf
 simp only[Bool.and_eq_true,Bool.not_eq_true'] at hf
 obtain⟨h0,h1,h2,h3⟩:=hf
 have hls:aY S < 1000:=by
  unfold pB at h0
  simp only[Bool.or_eq_false_iff,decide_eq_false_iff_not] at h0
  omega
 have hs:=dY.1 h2 k k0 hb
 unfold zC at hs
 simp only[Bool.or_eq_false_iff,Bool.not_eq_false'] at hs
 obtain⟨g1,g2,g3,g4⟩:=hs
 unfold nS at g1 g2
 simp only[Bool.and_eq_true,decide_eq_true_eq] at g1 g2
 have hl:aA.len (bN.ends V S k)=aY V:=by show(((jA V S k.toNat).length:Nat):Int)=_;rw[uB];rfl
 have hl2: ∀ i z,aA.len (aA.set (bN.ends V S k) i z)=aY V:=fun i z=>by
  rw[← hl];show(((List.set _ _ _).length:Nat):Int)=_;rw[List.length_set];rfl
 refine⟨decide_eq_true k0,decide_eq_true g1.1,?_,decide_eq_true g2.1,?_,?_,⟨by omega,by omega⟩,?_,by omega⟩
 ·rw[hl];exact decide_eq_true g1.2
 ·rw[hl2];exact decide_eq_true g2.2
 ·show _=jA V S (k+1).toNat
  rw[show(k+1).toNat=k.toNat+1 from by omega]
  have hk:((k.toNat:Nat):Int)=k:=by omega
  show _=zT (zT (jA V S k.toNat) (cK S ((k.toNat:Nat):Int)).1) (cK S ((k.toNat:Nat):Int)).2.1
  rw[hk];rfl
 ·show IntKind.i64.wrap (k+1)=k+1
  rw[IntKind.wrap_i64];omega
structure LdE (A:Alg) (U:SU) (V S:List (Int×Int×Int)) (k:Int):Prop where
 r:A.not (U.anyI (U.ends V S k))=U.looped V S
 l:A.cmp .lss (A.len (U.ends V S k)) 1000000=true
theorem Nk {V S:List (Int×Int×Int)} {l:List Pt} (hf:iO V S l=true) {k:Int} (hI:LdI S k) (A:Alg) (hA:A=aA) (U:SU) (hU:U=bN) (hb:A.cmp .lss k (A.len S)=false):LdE A U V S k:=by
 subst hA hU
 have hb: ¬ k < aY S:=of_decide_eq_false hb
 obtain⟨k0,k1⟩:=hI
 have hk:k.toNat=S.length:=by unfold aY at hb k1;omega
 have hl: ∀ m,aY (jA V S m)=aY V:=fun m=>by unfold aY;rw[uB]
 unfold iO at hf
 simp only[Bool.and_eq_true,Bool.not_eq_true'] at hf
 have hlv:aY V < 1000:=by
  have h0:=hf.1
  unfold pB at h0
  simp only[Bool.or_eq_false_iff,decide_eq_false_iff_not] at h0
  omega
 refine⟨?_,?_⟩
 ·show(!cY (aY (jA V S k.toNat)) fun j=>decide (mU (jA V S k.toNat) j≠2))= !cY (aY V) fun j=>decide (mU (jA V S S.length) j≠2)
  rw[hl,hk]
 ·have:=hl k.toNat
  exact bH _ rfl _ _ (by show aY (jA V S k.toNat) < 1000000;omega)
structure LdZ (A:Alg) (U:SU) (V S:List (Int×Int×Int)):Prop where
 o1:A.cmp .leq 0 (A.len V)=true
 o2:A.cmp .eql (A.len V) (A.len V)=true
 o3:A.cmp .leq (A.len V) 1000000=true
 z:A.rep (A.len V) 0=U.ends V S 0
theorem JY {V S:List (Int×Int×Int)} {l:List Pt} (hf:iO V S l=true) (A:Alg) (hA:A=aA) (U:SU) (hU:U=bN):LdZ A U V S:=by
 subst hA hU
 unfold iO at hf
 simp only[Bool.and_eq_true,Bool.not_eq_true'] at hf
 have hlv:aY V < 1000:=by
  have h0:=hf.1
  unfold pB at h0
  simp only[Bool.or_eq_false_iff,decide_eq_false_iff_not] at h0
  omega
 refine⟨bJ _ rfl _ _ (by show(0:Int)≤aY V;exact Int.natCast_nonneg _),by rw[fG];simp,bJ _ rfl _ _ (by show aY V≤1000000;omega),?_⟩
 show List.replicate ((V.length:Int)).toNat 0=List.replicate V.length 0
 simp
def uA4 (A:Alg) (U:SU):List (Nat×bU):=(109,aR [.a (.s (.int .i64)), .a (.f [])] A (Jj A U)) :: ([])
theorem Ph:COK Tryz.prog (aN (uA4 aA bN)):=aB GA (bC)
theorem Bx:aJ Tryz.prog 72 (aR [.g [.s .i3, .s .i3, .s .pt]] aA (uJ aA bN)):=by
 refine aW (un:=⟨false,some [0,1,2,3,5,15,16,17,18]⟩) tok Ph aL (fn:=Tryz.f72) ?_
 intro w Wr args bs r hg ho hWr A L k hA hL hk
 obtain⟨U,hU⟩:=exE bN
 try rw[← hU]
 try rw[← hA]
 unfold uJ at hg
 split at hg <;> cases hg
 rename_i V S l
 have hf:iO V S l=true:=(aG ho).1
 clear ho
 have z:=JY (V:=V) (S:=S) hf A hA U hU
 have i0:LdI S 0:=⟨Int.le_refl _,Int.natCast_nonneg _⟩
 cbv
 repeat' with_reducible first | (intro hb;cbv) | refine UM ?_ ?_
 all_goals first | exact z.o1 | exact z.o2 | exact z.o3 | skip
 refine hL _ _ _ (aQ (un:=⟨false,some [0,1,2,3,5,15,16,17,18]⟩) tok Ph aL (fun k:Int=>⟨[(17,⟨[], .c (.s (.int .i64 k))⟩),(16,⟨[], .c (.s (.int .i64 (A.len S)))⟩),(15,⟨[], .c (.s (.hs 1))⟩),(3,⟨[], .c (.s (.hs 4))⟩),(2,⟨[], .c (.s (.tt false))⟩),(1,⟨[], .c (.s (.hp 3 0))⟩)],[(4, .vec true (.int .i64) (U.ends V S k)),(3, .fix true [.s (.hs 0), .s (.hs 1), .s (.hs 2)]),(0, .vec false .i3 V),(1, .vec false .i3 S),(2, .vec false .pt l)],5⟩)
  (fun k=>LdI S k) (fun k=>(aY S - k).toNat) 0 i0 ?_ (fun _ i hi=>by have:=hWr i hi;simp at this;show i < 5;omega) ?_)
 ·have ez:=z.z
  exact⟨⟨⟨rfl,rfl,fun _=>rfl⟩,⟨rfl,rfl,fun _=>rfl⟩,⟨rfl,rfl,fun _=>rfl⟩,⟨rfl,rfl,fun _=>rfl⟩,⟨rfl,rfl,fun _=>rfl⟩,⟨rfl,rfl,fun _=>rfl⟩,trivial⟩,⟨leV ez,aF rfl,aF rfl,aF rfl,aF rfl,trivial⟩,rfl,rfl⟩
 clear i0 z
 rintro k hI A2 L2 k2 hA2 hL2 hnext hexit hret
 have st:=fun hb:A2.cmp .lss k (A2.len S)=true=>JX hf hI A2 hA2 U hU hb
 have en:=fun hb:A2.cmp .lss k (A2.len S)=false=>Nk hf hI A2 hA2 U hU hb
 clear hI hf
 rw[hA, ← hA2, ← hU]
 cbv
 repeat' with_reducible first | (intro hb;cbv) | refine UM ?_ ?_
 all_goals first | exact(st hb).o1 | exact(st hb).a0 | exact(st hb).a1 | exact(st hb).b0 | exact(st hb).b1 | exact hb | skip
 ·refine hnext _ (k+1) (st hb).I (st hb).ms ?_
  have ead:=(st hb).ad
  have enx:=(st hb).nx
  subst hA2 hA hU
  exact⟨⟨⟨rfl,rfl,leI ead⟩,⟨rfl,rfl,fun _=>rfl⟩,⟨rfl,rfl,fun _=>rfl⟩,⟨rfl,rfl,fun _=>rfl⟩,⟨rfl,rfl,fun _=>rfl⟩,⟨rfl,rfl,fun _=>rfl⟩,trivial⟩,⟨leV enx,aF rfl,aF rfl,aF rfl,aF rfl,trivial⟩,rfl,rfl⟩
 ·have e:=en hb
  have e1:=e.r
  have e2:=e.l
  rw[hA2, ← hA] at e1 e2
  apply hexit
  clear hexit hnext hret st en e
  cbv
  repeat' with_reducible first | (intro hb;cbv) | refine UM ?_ ?_
  ·exact e2
  refine hk _ _ (bW.pure rfl rfl fun ρ=>dB ?_)
  subst hU
  exact e1
def E8 (U:SU):List CV→List Blk→Option LW
 | [.g [.s (.hs 0), .s (.hs 1), .s (.hs 2)], .s (.int .i64 i)],[.vec false .i3 V, .vec false .i3 S, .vec false .pt l]=>some ⟨[U.inb V], .c (.g [.P (U.pt V i)]),[],[]⟩
 | _,_=>none
def CZ (A:Alg) (U:SU):List CV→List Blk→Option LW
 | [.g [.s (.hs 0), .s (.hs 1), .s (.hs 2)], .g [.P p]],[.vec false .i3 V, .vec false .i3 S, .vec false .pt l]=>some ⟨[U.inb V,A.cmp .lss (A.len S) 1000000], .c (.s (.bool (U.hole V S p))),[],[]⟩
 | _,_=>none
def JI (A:Alg) (U:SU):List CV→List Blk→Option LW
 | [.g [.P p], .s (.hp 3 0)],[.vec false .i3 V, .vec false .i3 S, .vec false .pt l, .fix false [.s (.hs 0), .s (.hs 1), .s (.hs 2)]]=>some ⟨[U.inb V,A.cmp .lss (A.len S) 1000000], .c (.s (.bool (A.not (U.hole V S p)))),[],[]⟩
 | _,_=>none
def Jt (A:Alg) (U:SU):List CV→List Blk→Option LW
 | [.s (.hs 0), .s (.fn 75 [(4,0)])],[.vec false .pt h, .vec false .i3 V, .vec false .i3 S, .vec false .pt l, .fix false [.s (.hs 1), .s (.hs 2), .s (.hs 3)]]=>some ⟨[U.inb V,A.cmp .lss (A.len S) 1000000,A.cmp .lss (A.len h) 1000000], .c (.s (.int .i64 (U.idxH V S h))),[],[]⟩
 | _,_=>none
def FC (A:Alg) (U:SU):List CV→List Blk→Option LW
 | [.s (.hs 0), .s (.fn 75 [(4,0)])],[.vec false .pt h, .vec false .i3 V, .vec false .i3 S, .vec false .pt l, .fix false [.s (.hs 1), .s (.hs 2), .s (.hs 3)]]=>some ⟨[U.inb V,A.cmp .lss (A.len S) 1000000,A.cmp .lss (A.len h) 1000000], .c (.s (.bool (U.anyH V S h))),[],[]⟩
 | _,_=>none
structure BxF (A:Alg) (U:SU) (V:List (Int×Int×Int)) (i:Int):Prop where
 x0:A.cmp .leq (-9223372036854775808) (U.ax V i)=true
 x1:A.cmp .lss (U.ax V i) 9223372036854775808=true
 y0:A.cmp .leq (-9223372036854775808) (U.ay V i)=true
 y1:A.cmp .lss (U.ay V i) 9223372036854775808=true
theorem HM {V:List (Int×Int×Int)} (h:bN.inb V=true) (i:Int):(-9223372036854775808≤axV V i∧axV V i < 9223372036854775808)∧(-9223372036854775808≤ayV V i∧ayV V i < 9223372036854775808):=by
 unfold axV ayV
 cases hh:nS V i
 ·simp
 ·simp only[if_true]
  unfold nS at hh
  simp only[Bool.and_eq_true,decide_eq_true_eq] at hh
  have hi:i.toNat < V.length:=by unfold aY at hh;omega
  have e:cK V i=V[i.toNat]:=by
   show(V[i.toNat]?).getD _=_
   rw[List.getElem?_eq_getElem hi];rfl
  rw[e]
  have:=List.all_eq_true.1 (show V.all _=true from h) _ (List.getElem_mem hi)
  simp only[Bool.and_eq_true,decide_eq_true_eq] at this
  exact⟨this.1,this.2.1⟩
theorem Sx {V:List (Int×Int×Int)} (h:bN.inb V=true) (A:Alg) (hA:A=aA) (U:SU) (hU:U=bN) (i:Int):BxF A U V i:=by
 subst hU
 obtain⟨⟨h1,h2⟩,h3,h4⟩:=HM h i
 exact⟨bJ A hA _ _ h1,bH A hA _ _ h2,bJ A hA _ _ h3,bH A hA _ _ h4⟩
def uB0 (A:Alg) (U:SU) (H:SH):List (Nat×bU):=(96,aR [.g [.s .i3, .s .i3, .s .pt], .a .v] A (Mk U)) :: (83,aC [.v, .v] A (FD A H)) :: ([])
theorem Rk:COK Tryz.prog (aN (uB0 aA bN bD)):=aB Ae (aB DF (bC))
theorem DZ:aJ Tryz.prog 65 (aR [.g [.s .i3, .s .i3, .s .pt], .a .v] aA (E8 bN)):=by
 refine aW (un:=⟨false,some [0,1,2,4,5]⟩) tok Rk aL (fn:=Tryz.f65) ?_
 intro w Wr args bs r hg ho hWr A L k hA hL hk
 obtain⟨H,hH⟩:=exE bD
 obtain⟨U,hU⟩:=exE bN
 try rw[← hH]
 try rw[← hU]
 try rw[← hA]
 unfold E8 at hg
 split at hg <;> cases hg
 rename_i i V S l
 have b:=Sx (aG ho).1 A hA U hU i
 clear ho
 have e:H.at_ (U.ax V i) (U.ay V i)=U.pt V i:=by subst hH hU;rfl
 cbv
 repeat' with_reducible first | (intro hb;cbv) | refine UM ?_ ?_
 all_goals first | exact b.x0 | exact b.x1 | exact b.y0 | exact b.y1 | skip
 refine hk _ _ (bW.pure rfl rfl fun ρ=>dP ?_)
 subst hU
 exact e
structure OrF (A:Alg) (U:SU) (H:SH) (x:Rt):Prop where
 r:A.ite (A.ite (A.ite (A.not (H.all [H.at_ 0 0,⟨x,(H.at_ 0 0).Y⟩])) true (A.not (H.all [⟨x,(H.at_ 0 0).Y⟩,H.at_ 64 0]))) true (A.cmp .geq (H.cmp (H.at_ 0 0) ⟨x,(H.at_ 0 0).Y⟩) 0)) true (A.cmp .geq (H.cmp ⟨x,(H.at_ 0 0).Y⟩ (H.at_ 64 0)) 0)=U.outR x
theorem RL (A:Alg) (hA:A=aA) (U:SU) (hU:U=bN) (H:SH) (hH:H=bD) (x:Rt):OrF A U H x:=by
 subst hA hU hH
 refine⟨?_⟩
 rw[dR,dR,dR,Bool.or_assoc,Bool.or_assoc]
 rfl
structure HlI (p:Pt) (k:Nat):Prop where
 k2:k≤2
 x:1≤k→outR p.X=false
 y:2≤k→outR p.Y=false
structure HoF (A:Alg) (U:SU) (V S:List (Int×Int×Int)) (p:Pt):Prop where
 x:U.outR p.X=true→false=U.hole V S p
 y:U.outR p.Y=true→false=U.hole V S p
 h:cY (aY S) (Di V S p)=true→false=U.hole V S p
 r:U.outR p.X=false→U.outR p.Y=false→cY (aY S) (Di V S p)=false→true=U.hole V S p
theorem ab9 (A:Alg) (U:SU) (hU:U=bN) (V S:List (Int×Int×Int)) (p:Pt):HoF A U V S p:=by
 subst hU
 have e:bN.hole V S p=(!bN.outR p.X&&(!bN.outR p.Y&& !cY (aY S) (Di V S p))):=rfl
 refine⟨fun h=>?_,fun h=>?_,fun h=>?_,fun h1 h2 h3=>?_⟩
 ·rw[e,h];rfl
 ·rw[e,h];cases bN.outR p.X <;> rfl
 ·rw[e,h];cases bN.outR p.X <;> cases bN.outR p.Y <;> rfl
 ·rw[e,h1,h2,h3];rfl
def uB1 (A:Alg) (U:SU) (H:SH) (J:SJ):List (Nat×bU):=(65,aR [.g [.s .i3, .s .i3, .s .pt], .a .v] A (E8 U)) :: (83,aC [.v, .v] A (FD A H)) :: (113,aC [.v, .v] A (CQ H)) :: (114,aC [.v, .v, .v] A (Mn A H J)) :: ([])
theorem Me:COK Tryz.prog (aN (uB1 aA bN bD kM)):=aB DZ (aB DF (aB yJ (aB N3 (bC))))
theorem GE:aJ Tryz.prog 76 (aR [.g [.s .i3, .s .i3, .s .pt], .a .v] aA (CZ aA bN)):=by
 refine aW (un:=⟨false,some [0,1,2,3,4,5,6,8,9,10,11,12,13,15,16,17,24,25,26,57,62,63,64,65,89]⟩) tok Me aL (fn:=Tryz.f76) ?_
 intro w Wr args bs r hg ho hWr A L k hA hL hk
 obtain⟨H,hH⟩:=exE bD
 obtain⟨J,hJ⟩:=exE kM
 obtain⟨U,hU⟩:=exE bN
 try rw[← hH]
 try rw[← hJ]
 try rw[← hU]
 try rw[← hA]
 unfold CZ at hg
 split at hg <;> cases hg
 rename_i p V S l
 have hin:bN.inb V=true:=(aG ho).1
 have hlen:=(aG (aG ho).2).1
 simp only[aA,aP,decide_eq_true_eq] at hlen
 have hlen:aY S < 1000000:=by unfold aY;omega
 clear ho
 have hls:A.len S=aY S:=by subst hA;rfl
 have f:=ab9 A U hU V S p
 have z0:A.cmp .leq (-9223372036854775808) 0=true:=bJ A hA _ _ (by omega)
 have z1:A.cmp .lss 0 9223372036854775808=true:=bH A hA _ _ (by omega)
 have z2:A.cmp .leq (-9223372036854775808) 64=true:=bJ A hA _ _ (by omega)
 have z3:A.cmp .lss 64 9223372036854775808=true:=bH A hA _ _ (by omega)
 have i1:AnI (aY S) (Di V S p) 0:=cH (Int.natCast_nonneg _)
 cbv
 repeat' with_reducible first | (intro hb;cbv) | refine UM ?_ ?_
 all_goals first | exact z0 | exact z1 | exact z2 | exact z3 | skip
 refine hL _ _ _ (aQ (un:=⟨false,some [0,1,2,3,4,5,6,8,9,10,11,12,13,15,16,17,24,25,26,57,62,63,64,65,89]⟩) tok Me aL (fun k:Nat=>⟨[(25,⟨[], .c (.s (.lit .i64 k))⟩),(24,⟨[], .c (.g [.P ⟨p.X,p.Y⟩])⟩),(6,⟨[], .c (.s (.hp 6 0))⟩),(5,⟨[], .c (.s (.hp 5 0))⟩),(4,⟨[], .c (.s (.tt false))⟩),(3,⟨[], .c (.s (.hp 4 0))⟩),(2,⟨[], .c (.s (.hp 3 0))⟩)],[(6, .fix true [.P (H.at_ 64 0)]),(5, .fix true [.P (H.at_ 0 0)]),(4, .fix true [.P p]),(3, .fix true [.s (.hs 0), .s (.hs 1), .s (.hs 2)]),(0, .vec false .i3 V),(1, .vec false .i3 S),(2, .vec false .pt l)],7⟩)
  (fun k=>HlI p k) (fun k=>2 - k) 0 ⟨by omega,fun h=>absurd h (by omega),fun h=>absurd h (by omega)⟩ ?_ (fun _ i hi=>by have:=hWr i hi;simp at this;show i < 7;omega) ?_)
 ·exact⟨⟨⟨rfl,rfl,fun _=>rfl⟩,⟨rfl,rfl,fun _=>rfl⟩,⟨rfl,rfl,fun _=>rfl⟩,⟨rfl,rfl,fun _=>rfl⟩,⟨rfl,rfl,fun _=>rfl⟩,⟨rfl,rfl,fun _=>rfl⟩,⟨rfl,rfl,fun _=>rfl⟩,trivial⟩,⟨aF rfl,aF rfl,aF rfl,aF rfl,aF rfl,aF rfl,aF rfl,trivial⟩,rfl,rfl⟩
 rintro k0 hI A2 L2 k2 hA2 hL2 hnext hexit hret
 have hk2:=hI.k2
 rcases(show k0=0∨k0=1∨k0=2 by omega) with rfl | rfl | rfl
 ·clear hI
  rw[hA, ← hA2] at z0 z1 z2 z3
  have r:=(RL A2 hA2 U hU H hH p.X).r
  rw[← hA2, ← hU, ← hH, ← hJ]
  cbv
  repeat' first | ((with_reducible intro hb);cbv) | with_reducible refine And.intro ?_ ?_
  ·rw[r] at hb
   apply hret
   clear hexit hnext hret
   cbv
   refine hk _ _ (bW.pure rfl rfl fun ρ=>dT ?_)
   have e:=f.x hb
   subst hU
   exact e
  ·rw[r] at hb
   refine hnext _ 1 ?_ (by omega) ?_
   ·exact⟨by omega,fun _=>(by subst hU;exact hb),fun h=>absurd h (by omega)⟩
   ·exact⟨⟨⟨rfl,rfl,fun _=>rfl⟩,⟨rfl,rfl,fun _=>rfl⟩,⟨rfl,rfl,fun _=>rfl⟩,⟨rfl,rfl,fun _=>rfl⟩,⟨rfl,rfl,fun _=>rfl⟩,⟨rfl,rfl,fun _=>rfl⟩,⟨rfl,rfl,fun _=>rfl⟩,trivial⟩,⟨aF rfl,aF rfl,aF rfl,aF rfl,aF rfl,aF rfl,aF rfl,trivial⟩,rfl,rfl⟩
 ·rw[hA, ← hA2] at z0 z1 z2 z3
  have r:=(RL A2 hA2 U hU H hH p.Y).r
  rw[← hA2, ← hU, ← hH, ← hJ]
  cbv
  repeat' first | ((with_reducible intro hb);cbv) | with_reducible refine And.intro ?_ ?_
  ·rw[r] at hb
   apply hret
   clear hexit hnext hret
   cbv
   refine hk _ _ (bW.pure rfl rfl fun ρ=>dT ?_)
   have e:=f.y hb
   subst hU
   exact e
  ·rw[r] at hb
   refine hnext _ 2 ?_ (by omega) ?_
   ·exact⟨by omega,fun _=>hI.x (by omega),fun _=>(by subst hU;exact hb)⟩
   ·exact⟨⟨⟨rfl,rfl,fun _=>rfl⟩,⟨rfl,rfl,fun _=>rfl⟩,⟨rfl,rfl,fun _=>rfl⟩,⟨rfl,rfl,fun _=>rfl⟩,⟨rfl,rfl,fun _=>rfl⟩,⟨rfl,rfl,fun _=>rfl⟩,⟨rfl,rfl,fun _=>rfl⟩,trivial⟩,⟨aF rfl,aF rfl,aF rfl,aF rfl,aF rfl,aF rfl,aF rfl,trivial⟩,rfl,rfl⟩
 have hx:=hI.x (by omega)
 have hy:=hI.y (by omega)
 clear hI
 rw[← hA2, ← hU, ← hH, ← hJ]
 cbv
 apply hexit
 clear hexit hnext hret
 cbv
 refine hL _ _ _ (aQ (un:=⟨false,some [0,1,2,3,4,5,6,8,9,10,11,12,13,15,16,17,24,25,26,57,62,63,64,65,89]⟩) tok Me aL (fun k:Int=>⟨[(64,⟨[], .c (.s (.int .i64 k))⟩),(63,⟨[], .c (.s (.int .i64 (A.len S)))⟩),(62,⟨[], .c (.s (.hs 1))⟩),(4,⟨[], .c (.s (.tt false))⟩),(3,⟨[], .c (.s (.hp 4 0))⟩),(2,⟨[], .c (.s (.hp 3 0))⟩)],[(6, .fix true [.P (H.at_ 64 0)]),(5, .fix true [.P (H.at_ 0 0)]),(4, .fix true [.P p]),(3, .fix true [.s (.hs 0), .s (.hs 1), .s (.hs 2)]),(0, .vec false .i3 V),(1, .vec false .i3 S),(2, .vec false .pt l)],7⟩)
  (fun k=>AnI (aY S) (Di V S p) k) (fun k=>(aY S - k).toNat) 0 i1 ?_ (fun _ i hi=>by have:=hWr i hi;simp at this;show i < 7;omega) ?_)
 ·exact⟨⟨⟨rfl,rfl,fun _=>rfl⟩,⟨rfl,rfl,fun _=>rfl⟩,⟨rfl,rfl,fun _=>rfl⟩,⟨rfl,rfl,fun _=>rfl⟩,⟨rfl,rfl,fun _=>rfl⟩,⟨rfl,rfl,fun _=>rfl⟩,trivial⟩,⟨aF rfl,aF rfl,aF rfl,aF rfl,aF rfl,aF rfl,aF rfl,trivial⟩,rfl,rfl⟩
 clear i1
 rintro k hI A3 L3 k3 hA3 hL3 hnext hexit hret
 have hls2:=hls
 rw[hA, ← hA3] at hls2
 have st:=fun hb:A3.cmp .lss k (A3.len S)=true=>c9 hI (by omega) A3 hA3 (by rw[← hls2];exact hb)
 have en:=fun hb:A3.cmp .lss k (A3.len S)=false=>eK hI A3 hA3 (by rw[← hls2];exact hb)
 have hh:A3.ite (A3.ite (H.all [U.pt V (A3.get S k (0,0,0)).1,U.pt V (A3.get S k (0,0,0)).2.1,p]) (J.on (U.pt V (A3.get S k (0,0,0)).1) (U.pt V (A3.get S k (0,0,0)).2.1) p) false) true (A3.not (H.all [U.pt V (A3.get S k (0,0,0)).1,U.pt V (A3.get S k (0,0,0)).2.1,p]))=Di V S p k:=by
  subst hA3 hU hH hJ
  rw[gF,dR]
  show(bD.all [ptV V (cK S k).1,ptV V (cK S k).2.1,p]&&kM.on (ptV V (cK S k).1) (ptV V (cK S k).2.1) p|| !bD.all [ptV V (cK S k).1,ptV V (cK S k).2.1,p])=_
  unfold Di
  cases bD.all [ptV V (cK S k).1,ptV V (cK S k).2.1,p] <;> simp
 clear hI
 have hin3:U.inb V=true:=by rw[hU];exact hin
 rw[hA, ← hA3, ← hU, ← hH, ← hJ]
 cbv
 repeat' with_reducible first | (intro hb;cbv) | refine UM ?_ ?_
 all_goals first | exact(st hb).o1 | exact hb | exact hin3 | skip
 ·rename_i hb0
  rw[hh] at hb
  have e:=f.h ((st hb0).ht hb)
  apply hret
  clear hexit hnext hret st en
  cbv
  refine hk _ _ (bW.pure rfl rfl fun ρ=>dT ?_)
  subst hU
  exact e
 ·rename_i hb0
  rw[hh] at hb
  refine hnext _ (k+1) ((st hb0).nx hb) (st hb0).ms ?_
  have ead:=(st hb0).ad
  subst hA3 hA
  exact⟨⟨⟨rfl,rfl,leI ead⟩,⟨rfl,rfl,fun _=>rfl⟩,⟨rfl,rfl,fun _=>rfl⟩,⟨rfl,rfl,fun _=>rfl⟩,⟨rfl,rfl,fun _=>rfl⟩,⟨rfl,rfl,fun _=>rfl⟩,trivial⟩,⟨aF rfl,aF rfl,aF rfl,aF rfl,aF rfl,aF rfl,aF rfl,trivial⟩,rfl,rfl⟩
 have e:=f.r (by rw[hU];exact hx) (by rw[hU];exact hy) (en hb).no
 apply hexit
 clear hexit hnext hret st en
 cbv
 refine hk _ _ (bW.pure rfl rfl fun ρ=>dT ?_)
 subst hU
 exact e
def uB2 (A:Alg) (U:SU):List (Nat×bU):=(76,aR [.g [.s .i3, .s .i3, .s .pt], .a .v] A (CZ A U)) :: ([])
theorem Rl:COK Tryz.prog (aN (uB2 aA bN)):=aB GE (bC)
theorem GM:aJ Tryz.prog 75 (aR [.a .v, .a (.p [.s .i3, .s .i3, .s .pt])] aA (JI aA bN)):=by
 refine aW (un:=⟨false,some [0,1,2,3]⟩) tok Rl aL (fn:=Tryz.f75) ?_
 intro w Wr args bs r hg ho hWr A L k hA hL hk
 obtain⟨U,hU⟩:=exE bN
 try rw[← hU]
 try rw[← hA]
 unfold JI at hg
 split at hg <;> cases hg
 rename_i p V S l
 have o1:=(aG ho).1
 have o2:=(aG (aG ho).2).1
 clear ho
 rw[← hA] at o2
 rw[← hU] at o1
 cbv
 repeat' with_reducible first | (intro hb;cbv) | refine UM ?_ ?_
 all_goals first | exact o1 | exact o2 | skip
 refine hk _ _ (bW.pure rfl rfl fun ρ=>dB ?_)
 subst hU hA
 rfl
def uB3 (A:Alg) (U:SU):List (Nat×bU):=(75,aR [.a .v, .a (.p [.s .i3, .s .i3, .s .pt])] A (JI A U)) :: ([])
theorem Pi:COK Tryz.prog (aN (uB3 aA bN)):=aB GM (bC)
theorem GF:aJ Tryz.prog 112 (aR [.a (.s .pt), .a (.f [.p [.s .i3, .s .i3, .s .pt]])] aA (Jt aA bN)):=by
 refine aW (un:=⟨false,some [0,1,4,5,7,8,9,16]⟩) tok Pi aL (fn:=Tryz.f112) ?_
 intro w Wr args bs r hg ho hWr A L k hA hL hk
 obtain⟨U,hU⟩:=exE bN
 try rw[← hU]
 try rw[← hA]
 unfold Jt at hg
 split at hg <;> cases hg
 rename_i h V S l
 have o1:=(aG ho).1
 have o2:=(aG (aG ho).2).1
 rw[← hA] at o2
 rw[← hU] at o1
 have hlen:=(aG (aG (aG ho).2).2).1
 simp only[aA,aP,decide_eq_true_eq] at hlen
 have hlen:aY h < 4611686018427387904:=by unfold aY;omega
 clear ho
 have hln:A.len h=aY h:=by subst hA;rfl
 have hp: ∀ k,A.not (U.hole V S (A.get h k ⟨⟨⟨false,A.zD⟩,⟨false,A.zD⟩⟩,⟨⟨false,A.zD⟩,⟨false,A.zD⟩⟩⟩))= !qQ V S (pC h k):=fun k=>by subst hA hU;rfl
 have i0:AnI (aY h) (fun k=> !qQ V S (pC h k)) 0:=cH (Int.natCast_nonneg _)
 cbv
 refine hL _ _ _ (aQ (un:=⟨false,some [0,1,4,5,7,8,9,16]⟩) tok Pi aL (fun k:Int=>⟨[(8,⟨[], .c (.s (.int .i64 k))⟩),(7,⟨[], .c (.s (.int .i64 (A.len h)))⟩),(4,⟨[], .c (.s (.lit .i64 0))⟩),(1,⟨[], .c (.s (.fn 75 [(4,0)]))⟩),(0,⟨[], .c (.s (.hs 0))⟩)],[(0, .vec false .pt h),(1, .vec false .i3 V),(2, .vec false .i3 S),(3, .vec false .pt l),(4, .fix false [.s (.hs 1), .s (.hs 2), .s (.hs 3)])],5⟩)
  (fun k=>AnI (aY h) (fun k=> !qQ V S (pC h k)) k) (fun k=>(aY h - k).toNat) 0 i0 ?_ (fun _ i hi=>by have:=hWr i hi;simp at this;show i < 5;omega) ?_)
 ·exact⟨⟨⟨rfl,rfl,fun _=>rfl⟩,⟨rfl,rfl,fun _=>rfl⟩,⟨rfl,rfl,fun _=>rfl⟩,⟨rfl,rfl,fun _=>rfl⟩,⟨rfl,rfl,fun _=>rfl⟩,trivial⟩,⟨aF rfl,aF rfl,aF rfl,aF rfl,aF rfl,trivial⟩,rfl,rfl⟩
 clear i0
 rintro k hI A2 L2 k2 hA2 hL2 hnext hexit hret
 rw[hA, ← hA2] at hln hp o2
 have st:=fun hb:A2.cmp .lss k (A2.len h)=true=>c9 hI hlen A2 hA2 (by rw[← hln];exact hb)
 have en:=fun hb:A2.cmp .lss k (A2.len h)=false=>eK hI A2 hA2 (by rw[← hln];exact hb)
 clear hI
 rw[hA, ← hA2, ← hU]
 cbv
 repeat' with_reducible first | (intro hb;cbv) | refine UM ?_ ?_
 all_goals first | exact(st hb).o1 | exact hb | exact o1 | exact o2 | skip
 ·rename_i hb0
  rw[hp] at hb
  have e:=(st hb0).ix hb
  apply hret
  clear hexit hnext hret st en
  cbv
  refine hk _ _ (bW.pure rfl rfl fun ρ=>dI ?_)
  exact e.symm
 ·rename_i hb0
  rw[hp] at hb
  refine hnext _ (k+1) ((st hb0).nx hb) (st hb0).ms ?_
  have ead:=(st hb0).ad
  subst hA2 hA
  exact⟨⟨⟨rfl,rfl,leI ead⟩,⟨rfl,rfl,fun _=>rfl⟩,⟨rfl,rfl,fun _=>rfl⟩,⟨rfl,rfl,fun _=>rfl⟩,⟨rfl,rfl,fun _=>rfl⟩,trivial⟩,⟨aF rfl,aF rfl,aF rfl,aF rfl,aF rfl,trivial⟩,rfl,rfl⟩
 ·have e:=(en hb).ix
  apply hexit
  clear hexit hnext hret st en
  cbv
  refine hk _ _ (bW.pure rfl rfl fun ρ=>dL ?_)
  exact e.symm
def uB4 (A:Alg) (U:SU):List (Nat×bU):=(112,aR [.a (.s .pt), .a (.f [.p [.s .i3, .s .i3, .s .pt]])] A (Jt A U)) :: ([])
theorem Rm:COK Tryz.prog (aN (uB4 aA bN)):=aB GF (bC)
theorem Gz:aJ Tryz.prog 74 (aR [.a (.s .pt), .a (.f [.p [.s .i3, .s .i3, .s .pt]])] aA (FC aA bN)):=by
 refine aW (un:=⟨false,some [0,1,4]⟩) tok Rm aL (fn:=Tryz.f74) ?_
 intro w Wr args bs r hg ho hWr A L k hA hL hk
 obtain⟨U,hU⟩:=exE bN
 try rw[← hU]
 try rw[← hA]
 unfold FC at hg
 split at hg <;> cases hg
 rename_i h V S l
 have o1:=(aG ho).1
 have o2:=(aG (aG ho).2).1
 have o3:=(aG (aG (aG ho).2).2).1
 rw[← hA] at o2 o3
 rw[← hU] at o1
 clear ho
 have e:A.cmp .geq (U.idxH V S h) 0=U.anyH V S h:=by subst hA hU;exact uM (aY h) fun k=> !qQ V S (pC h k)
 cbv
 repeat' with_reducible first | (intro hb;cbv) | refine UM ?_ ?_
 all_goals first | exact o1 | exact o2 | exact o3 | skip
 refine hk _ _ (bW.pure rfl rfl fun ρ=>dB ?_)
 subst hU
 exact e
def uI (U:SU):List CV→List Blk→Option LW
 | [.g [.s (.hs 0), .s (.hs 1), .s (.hs 2)]],[.vec false .i3 V, .vec false .i3 S, .vec false .pt l]=>some ⟨[U.inb V], .c (.s (.int .i64 (U.check V S l))),[],[]⟩
 | _,_=>none
theorem uF {V S:List (Int×Int×Int)} {l:List Pt} (h:iO V S l=true):aY V < 1000∧aY S < 1000∧aY l < 1000:=by
 unfold iO at h
 simp only[Bool.and_eq_true,Bool.not_eq_true'] at h
 have h0:=h.1
 unfold pB at h0
 simp only[Bool.or_eq_false_iff,decide_eq_false_iff_not] at h0
 omega
structure CkF (A:Alg) (U:SU) (V S:List (Int×Int×Int)) (l:List Pt):Prop where
 c1:A.not (U.form V S l)=true→10=U.check V S l
 f:A.not (U.form V S l)=false→U.form V S l=true
 lv:A.not (U.form V S l)=false→A.cmp .lss (A.len V) 1000000=true
 ls:A.not (U.form V S l)=false→A.cmp .lss (A.len S) 1000000=true
 ll:A.not (U.form V S l)=false→A.cmp .lss (A.len l) 1000000=true
 c2:A.not (U.form V S l)=false→A.not (U.bound V)=true→13=U.check V S l
 c3:A.not (U.form V S l)=false→A.not (U.bound V)=false→U.twin V=true→14=U.check V S l
 c4:A.not (U.form V S l)=false→A.not (U.bound V)=false→U.twin V=false→A.not (U.looped V S)=true→15=U.check V S l
 c5:A.not (U.form V S l)=false→A.not (U.bound V)=false→U.twin V=false→A.not (U.looped V S)=false→U.crossed V S=true→16=U.check V S l
 c6:A.not (U.form V S l)=false→A.not (U.bound V)=false→U.twin V=false→A.not (U.looped V S)=false→U.crossed V S=false→U.anyH V S l=true→17=U.check V S l
 c7:A.not (U.form V S l)=false→A.not (U.bound V)=false→U.twin V=false→A.not (U.looped V S)=false→U.crossed V S=false→U.anyH V S l=false→0=U.check V S l
theorem Sy (A:Alg) (hA:A=aA) (U:SU) (hU:U=bN) (V S:List (Int×Int×Int)) (l:List Pt):CkF A U V S l:=by
 subst hA hU
 have e:bN.check V S l=if !bN.form V S l then 10 else if !bN.bound V then 13 else if bN.twin V then 14 else if !bN.looped V S then 15 else if bN.crossed V S then 16 else if bN.anyH V S l then 17 else 0:=rfl
 have hf:aA.not (bN.form V S l)=false→iO V S l=true:=fun h=>by
  have h:(!bN.form V S l)=false:=h
  rw[Bool.not_eq_false'] at h
  exact h
 have n: ∀ b,aA.not b= !b:=fun b=>rfl
 refine⟨fun h=>?_,hf,fun h=>?_,fun h=>?_,fun h=>?_,fun h1 h2=>?_,fun h1 h2 h3=>?_,fun h1 h2 h3 h4=>?_,fun h1 h2 h3 h4 h5=>?_,fun h1 h2 h3 h4 h5 h6=>?_,fun h1 h2 h3 h4 h5 h6=>?_⟩
 ·rw[n] at h;rw[e,h];rfl
 ·have:=(uF (hf h)).1
  exact bH _ rfl _ _ (by show aY V < 1000000;omega)
 ·have:=(uF (hf h)).2.1
  exact bH _ rfl _ _ (by show aY S < 1000000;omega)
 ·have:=(uF (hf h)).2.2
  exact bH _ rfl _ _ (by show aY l < 1000000;omega)
 ·rw[n] at h1 h2;rw[e,h1,h2];rfl
 ·rw[n] at h1 h2;rw[e,h1,h2,h3];rfl
 ·rw[n] at h1 h2 h4;rw[e,h1,h2,h3,h4];rfl
 ·rw[n] at h1 h2 h4;rw[e,h1,h2,h3,h4,h5];rfl
 ·rw[n] at h1 h2 h4;rw[e,h1,h2,h3,h4,h5,h6];rfl
 ·rw[n] at h1 h2 h4;rw[e,h1,h2,h3,h4,h5,h6];rfl
theorem GB:aJ Tryz.prog 74 (GT (aR [.a (.s .pt), .a (.f [])] aA (CP aA bN)) (aR [.a (.s .pt), .a (.f [.p [.s .i3, .s .i3, .s .pt]])] aA (FC aA bN))):=Ch Ad Gz
def uB5 (A:Alg) (U:SU):List (Nat×bU):=(69,aR [.g [.s .i3, .s .i3, .s .pt]] A (sR U)) :: (70,aR [.g [.s .i3, .s .i3, .s .pt]] A (xT A U)) :: (71,aR [.g [.s .i3, .s .i3, .s .pt]] A (Db A U)) :: (72,aR [.g [.s .i3, .s .i3, .s .pt]] A (uJ A U)) :: (73,aR [.g [.s .i3, .s .i3, .s .pt]] A (qM A U)) :: (74,(GT (aR [.a (.s .pt), .a (.f [])] A (CP A U)) (aR [.a (.s .pt), .a (.f [.p [.s .i3, .s .i3, .s .pt]])] A (FC A U)))) :: ([])
theorem Rn:COK Tryz.prog (aN (uB5 aA bN)):=aB GD (aB DX (aB GP (aB Bx (aB yL (aB GB (bC))))))
theorem wE:aJ Tryz.prog 46 (aR [.g [.s .i3, .s .i3, .s .pt]] aA (uI bN)):=by
 refine aW (un:=⟨false,some [0,1,2,3,7,11,15,18,22,25]⟩) tok Rn aL (fn:=Tryz.f46) ?_
 intro w Wr args bs r hg ho hWr A L k hA hL hk
 obtain⟨U,hU⟩:=exE bN
 try rw[← hU]
 try rw[← hA]
 unfold uI at hg
 split at hg <;> cases hg
 rename_i V S l
 have o1:=(aG ho).1
 rw[← hU] at o1
 clear ho
 have f:=Sy A hA U hU V S l
 cbv
 repeat' with_reducible first | (intro hb;cbv) | refine UM ?_ ?_
 all_goals first | exact o1 | exact f.f (by assumption) | exact f.lv (by assumption) | exact f.ls (by assumption) | exact f.ll (by assumption) | skip
 all_goals refine hk _ _ (bW.pure rfl rfl fun ρ=>dL ?_)
 ·have e:=f.c1 hb;subst hU;exact e
 ·have e:=f.c2 (by assumption) hb;subst hU;exact e
 ·have e:=f.c3 (by assumption) (by assumption) hb;subst hU;exact e
 ·have e:=f.c4 (by assumption) (by assumption) (by assumption) hb;subst hU;exact e
 ·have e:=f.c5 (by assumption) (by assumption) (by assumption) (by assumption) hb;subst hU;exact e
 ·have e:=f.c6 (by assumption) (by assumption) (by assumption) (by assumption) (by assumption) hb;subst hU;exact e
 ·have e:=f.c7 (by assumption) (by assumption) (by assumption) (by assumption) (by assumption) hb;subst hU;exact e
end Go.Eng
