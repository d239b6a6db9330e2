
import Derived.Test.YtdbmppedhaipoaaGreatZCD1
set_option linter.all false
set_option exponentiation.threshold 3000
set_option maxRecDepth 100000
set_option maxHeartbeats 2000000
namespace Go.Eng
open Go.Proofs
def xY (A:Alg) (U:SU):List CV→List Blk→Option LW
 | [.g [.s (.hs 0), .s (.hs 1), .s (.hs 2)], .s (.int .i64 i), .s (.int .i64 j)],[.vec false .i3 V, .vec false .i3 S, .vec false .pt H]=>
  some ⟨[A.cmp .leq 0 i,A.cmp .lss i (A.len S),A.cmp .leq 0 j,A.cmp .lss j (A.len S)], .c (.s (.bool (U.cross V S i j))),[],[]⟩
 | _,_=>none
structure CrV (A:Alg) (U:SU) (V S:List (Int×Int×Int)) (i j:Int) (s t:Int×Int×Int):Prop where
 c1:A.ite (U.isEnd (s.1,s.2.1,s.2.2) t.1) (U.isEnd (s.1,s.2.1,s.2.2) t.2.1) false=true→true=U.cross V S i j
 c2:A.ite (A.ite (U.on V s.1 s.2.1 t.1) (A.not (U.isEnd (s.1,s.2.1,s.2.2) t.1)) false) true (A.ite (U.on V s.1 s.2.1 t.2.1) (A.not (U.isEnd (s.1,s.2.1,s.2.2) t.2.1)) false)=true→true=U.cross V S i j
 c3:A.ite (A.ite (A.ite (U.on V t.1 t.2.1 s.1) (A.cmp .neq s.1 t.1) false) (A.cmp .neq s.1 t.2.1) false) true (A.ite (A.ite (U.on V t.1 t.2.1 s.2.1) (A.cmp .neq s.2.1 t.1) false) (A.cmp .neq s.2.1 t.2.1) false)=true→true=U.cross V S i j
 c4:A.ite (U.isEnd (s.1,s.2.1,s.2.2) t.1) (U.isEnd (s.1,s.2.1,s.2.2) t.2.1) false=false→A.ite (A.ite (U.on V s.1 s.2.1 t.1) (A.not (U.isEnd (s.1,s.2.1,s.2.2) t.1)) false) true (A.ite (U.on V s.1 s.2.1 t.2.1) (A.not (U.isEnd (s.1,s.2.1,s.2.2) t.2.1)) false)=false→A.ite (A.ite (A.ite (U.on V t.1 t.2.1 s.1) (A.cmp .neq s.1 t.1) false) (A.cmp .neq s.1 t.2.1) false) true (A.ite (A.ite (U.on V t.1 t.2.1 s.2.1) (A.cmp .neq s.2.1 t.1) false) (A.cmp .neq s.2.1 t.2.1) false)=false→A.ite (A.cmp .lss (A.bin .mul .i64 (U.turn (U.ax V s.1) (U.ay V s.1) (U.ax V s.2.1) (U.ay V s.2.1) (U.ax V t.1) (U.ay V t.1)) (U.turn (U.ax V s.1) (U.ay V s.1) (U.ax V s.2.1) (U.ay V s.2.1) (U.ax V t.2.1) (U.ay V t.2.1))) 0) (A.cmp .lss (A.bin .mul .i64 (U.turn (U.ax V t.1) (U.ay V t.1) (U.ax V t.2.1) (U.ay V t.2.1) (U.ax V s.1) (U.ay V s.1)) (U.turn (U.ax V t.1) (U.ay V t.1) (U.ax V t.2.1) (U.ay V t.2.1) (U.ax V s.2.1) (U.ay V s.2.1))) 0) false=U.cross V S i j
theorem Kf (a b:Int):aA.cmp .neq a b= !decide (a=b):=by
 show(a != b)= !decide (a=b)
 by_cases h:a=b <;> simp[h]
theorem Zz (A:Alg) (hA:A=aA) (U:SU) (hU:U=bN) (V S:List (Int×Int×Int)) (i j:Int) (s t:Int×Int×Int) (hs:s=A.get S i (0,0,0)) (ht:t=A.get S j (0,0,0)):CrV A U V S i j s t:=by
 subst hA hU
 have key:bN.cross V S i j=((((aA.ite (bN.isEnd (s.1,s.2.1,s.2.2) t.1) (bN.isEnd (s.1,s.2.1,s.2.2) t.2.1) false)||(aA.ite (aA.ite (bN.on V s.1 s.2.1 t.1) (aA.not (bN.isEnd (s.1,s.2.1,s.2.2) t.1)) false) true (aA.ite (bN.on V s.1 s.2.1 t.2.1) (aA.not (bN.isEnd (s.1,s.2.1,s.2.2) t.2.1)) false)))||(aA.ite (aA.ite (aA.ite (bN.on V t.1 t.2.1 s.1) (aA.cmp .neq s.1 t.1) false) (aA.cmp .neq s.1 t.2.1) false) true (aA.ite (aA.ite (bN.on V t.1 t.2.1 s.2.1) (aA.cmp .neq s.2.1 t.1) false) (aA.cmp .neq s.2.1 t.2.1) false)))||(aA.ite (aA.cmp .lss (aA.bin .mul .i64 (bN.turn (bN.ax V s.1) (bN.ay V s.1) (bN.ax V s.2.1) (bN.ay V s.2.1) (bN.ax V t.1) (bN.ay V t.1)) (bN.turn (bN.ax V s.1) (bN.ay V s.1) (bN.ax V s.2.1) (bN.ay V s.2.1) (bN.ax V t.2.1) (bN.ay V t.2.1))) 0) (aA.cmp .lss (aA.bin .mul .i64 (bN.turn (bN.ax V t.1) (bN.ay V t.1) (bN.ax V t.2.1) (bN.ay V t.2.1) (bN.ax V s.1) (bN.ay V s.1)) (bN.turn (bN.ax V t.1) (bN.ay V t.1) (bN.ax V t.2.1) (bN.ay V t.2.1) (bN.ax V s.2.1) (bN.ay V s.2.1))) 0) false)):=by
  subst hs ht
  simp only[gF,dR,Kf]
  show j4 V S i j=_
  unfold j4
  simp only[Bool.and_assoc]
  rfl
 refine⟨fun h=>?_,fun h=>?_,fun h=>?_,fun h1 h2 h3=>?_⟩
 ·rw[key,h];rfl
 ·rw[key,h,Bool.or_true];rfl
 ·rw[key,h,Bool.or_true];rfl
 ·rw[key,h1,h2,h3];rfl
theorem DY:aJ Tryz.prog 111 (aR [.g [.s .i3, .s .i3, .s .pt], .a .v, .a .v] aA (xY aA bN)):=by
 refine aW (un:=⟨false,some [0,1,2,3,6,7,8,9,10,11,12,13,29,40,69]⟩) tok QP aL (fn:=Tryz.f111) ?_
 intro w Wr args bs r hg ho hWr A L k hA hL hk
 obtain⟨U,hU⟩:=exE bN
 try rw[← hU]
 try rw[← hA]
 unfold xY at hg
 split at hg <;> cases hg
 rename_i i j V S H
 have o1:=(aG ho).1
 have o2:=(aG (aG ho).2).1
 have o3:=(aG (aG (aG ho).2).2).1
 have o4:=(aG (aG (aG (aG ho).2).2).2).1
 clear ho
 have f:=Zz A hA U hU V S i j _ _ rfl rfl
 rw[← hA] at o1 o2 o3 o4
 have im: ∀ b c,c=true→A.imp b c=true:=fun b c h=>by rw[h];subst hA;cases b <;> rfl
 cbv
 repeat' with_reducible first | (intro hb;cbv) | refine UM ?_ ?_
 all_goals first | exact o1 | exact o2 | exact o3 | exact o4 | exact im _ _ o1 | exact im _ _ o2 | exact im _ _ o3 | exact im _ _ o4 | skip
 all_goals refine hk _ _ (bW.pure rfl rfl fun ρ=>?_)
 ·have e:=f.c1 hb
  subst hU hA
  exact dT e
 ·have e:=f.c2 hb
  subst hU hA
  exact dT e
 ·have e:=f.c3 hb
  subst hU hA
  exact dT e
 ·have e:=f.c4 (by assumption) (by assumption) (by assumption)
  subst hU hA
  exact dB e
end Go.Eng
