
import Derived.Test.YtdbmppedhaipoaaGreatZCE6
import Derived.Test.YtdbmppedhaipoaaGreatZCE7
import Derived.Test.YtdbmppedhaipoaaGreatSpecB6
set_option linter.all false
set_option exponentiation.threshold 3000
set_option maxRecDepth 100000
set_option maxHeartbeats 2000000
namespace Go.Eng
open Go.Proofs
def V7 (A:Alg) (U:SU) (C:SC) (B:SB):List CV→List Blk→Option LR
 | [.g [.s (.int .i64 x), .s (.int .i64 y), .s (.int .i64 s)], .g [.s (.int .i64 ax), .s (.int .i64 ay), .s (.int .i64 am)], .g [.s (.int .i64 bx), .s (.int .i64 by_), .s (.int .i64 bm)]],[]=>some ⟨[C.is x y s,A.not (U.out (ax,ay,am)),A.not (U.out (bx,by_,bm))], .c (.s (.bool (B.metI x y s ax ay bx by_))),[]⟩
 | _,_=>none
theorem Xf {p q:Int} (h1: -64≤p) (h2:p≤64) (h3: -64≤q) (h4:q≤64): -4096≤p*q∧p*q≤4096:=by
 have a:=Int.mul_nonneg (show 0≤64 - p by omega) (show 0≤64 - q by omega)
 have b:=Int.mul_nonneg (show 0≤64+p by omega) (show 0≤64+q by omega)
 have c:=Int.mul_nonneg (show 0≤64 - p by omega) (show 0≤64+q by omega)
 have d:=Int.mul_nonneg (show 0≤64+p by omega) (show 0≤64 - q by omega)
 constructor <;> grind
def tI (A:Alg) (ax ay bx by_ X Y:Int):Int:=A.bin .sub .i64 (A.bin .mul .i64 (A.bin .sub .i64 bx ax) (A.bin .sub .i64 Y ay)) (A.bin .mul .i64 (A.bin .sub .i64 by_ ay) (A.bin .sub .i64 X ax))
def coX (A:Alg) (x s i:Int):Int:=A.bin .add .i64 x (A.bin .mul .i64 i s)
def YG (A:Alg) (x y s ax ay bx by_:Int):Bool:=A.ite (A.ite (A.ite (A.cmp .lss (A.mx ax bx) x) true (A.cmp .gtr (A.mn ax bx) (A.bin .add .i64 x s))) true (A.cmp .lss (A.mx ay by_) y)) true (A.cmp .gtr (A.mn ay by_) (A.bin .add .i64 y s))
def Zk (A:Alg) (x y s ax ay bx by_:Int):Bool:=
 A.ite (A.ite (A.ite (A.ite (A.cmp .geq (tI A ax ay bx by_ (coX A x s 0) (coX A y s 0)) 0) true (A.cmp .geq (tI A ax ay bx by_ (coX A x s 1) (coX A y s 0)) 0)) true (A.cmp .geq (tI A ax ay bx by_ (coX A x s 0) (coX A y s 1)) 0)) true (A.cmp .geq (tI A ax ay bx by_ (coX A x s 1) (coX A y s 1)) 0))
  (A.ite (A.ite (A.ite (A.cmp .leq (tI A ax ay bx by_ (coX A x s 0) (coX A y s 0)) 0) true (A.cmp .leq (tI A ax ay bx by_ (coX A x s 1) (coX A y s 0)) 0)) true (A.cmp .leq (tI A ax ay bx by_ (coX A x s 0) (coX A y s 1)) 0)) true (A.cmp .leq (tI A ax ay bx by_ (coX A x s 1) (coX A y s 1)) 0)) false
structure MqF (A:Alg) (B:SB) (x y s ax ay bx by_:Int):Prop where
 c1:YG A x y s ax ay bx by_=true→false=B.metI x y s ax ay bx by_
 c0:YG A x y s ax ay bx by_=false→Zk A x y s ax ay bx by_=B.metI x y s ax ay bx by_
theorem Xg {a b c:Int} (h:aA.not (bN.out (a,b,c))=true):0≤a∧a≤64∧0≤b∧b≤64:=by
 have h:(!(!(decide (0≤a)&&decide (a≤64))|| !(decide (0≤b)&&decide (b≤64))))=true:=h
 simp at h
 omega
theorem ZC (A:Alg) (hA:A=aA) (U:SU) (hU:U=bN) (C:SC) (hC:C=UT) (B:SB) (hB:B=UP) {x y s ax ay am bx by_ bm:Int} (h:C.is x y s=true) (ha:A.not (U.out (ax,ay,am))=true) (hb:A.not (U.out (bx,by_,bm))=true):MqF A B x y s ax ay bx by_:=by
 subst hA hU hC hB
 obtain⟨s1,s2,x1,y1,x2,y2⟩:=XA h
 obtain⟨a1,a2,a3,a4⟩:=Xg ha
 obtain⟨b1,b2,b3,b4⟩:=Xg hb
 have w: ∀ z:Int, -9223372036854775808≤z→z < 9223372036854775808→IntKind.i64.wrap z=z:=fun z h1 h2=>by rw[IntKind.wrap_i64];omega
 have c0: ∀ x:Int,0≤x→x≤64→coX aA x s 0=x:=fun x h1 h2=>by
  show IntKind.i64.wrap (x+IntKind.i64.wrap (0*s))=x
  rw[Int.zero_mul,w 0 (by decide) (by decide),w _ (by omega) (by omega)];omega
 have c1: ∀ x:Int,0≤x→x≤64→coX aA x s 1=x+s:=fun x h1 h2=>by
  show IntKind.i64.wrap (x+IntKind.i64.wrap (1*s))=x+s
  rw[Int.one_mul,w s (by omega) (by omega),w _ (by omega) (by omega)]
 have t: ∀ X Y:Int,0≤X→X≤64→0≤Y→Y≤64→tI aA ax ay bx by_ X Y=crJ ax ay bx by_ X Y:=fun X Y h1 h2 h3 h4=>by
  show IntKind.i64.wrap (IntKind.i64.wrap (IntKind.i64.wrap (bx - ax)*IntKind.i64.wrap (Y - ay)) - IntKind.i64.wrap (IntKind.i64.wrap (by_ - ay)*IntKind.i64.wrap (X - ax)))=_
  have p:=Xf (p:=bx - ax) (q:=Y - ay) (by omega) (by omega) (by omega) (by omega)
  have q:=Xf (p:=by_ - ay) (q:=X - ax) (by omega) (by omega) (by omega) (by omega)
  rw[w (bx - ax) (by omega) (by omega),w (Y - ay) (by omega) (by omega),w (by_ - ay) (by omega) (by omega),w (X - ax) (by omega) (by omega),w ((bx - ax)*(Y - ay)) (by omega) (by omega),w ((by_ - ay)*(X - ax)) (by omega) (by omega),w ((bx - ax)*(Y - ay) - (by_ - ay)*(X - ax)) (by omega) (by omega)]
  rfl
 have it: ∀ u v:Bool,aA.ite u true v=(u||v):=fun u v=>by cases u <;> rfl
 have ia: ∀ u v:Bool,aA.ite u v false=(u&&v):=fun u v=>by cases u <;> rfl
 have e1:aA.bin .add .i64 x s=x+s:=w _ (by omega) (by omega)
 have e2:aA.bin .add .i64 y s=y+s:=w _ (by omega) (by omega)
 have cd:YG aA x y s ax ay bx by_=(decide (aA.mx ax bx < x)||(decide (aA.mn ax bx > x+s)||(decide (aA.mx ay by_ < y)||decide (aA.mn ay by_ > y+s)))):=by
  unfold YG
  rw[it,it,it,e1,e2,Bool.or_assoc,Bool.or_assoc]
  rfl
 have vl:Zk aA x y s ax ay bx by_=((decide (crJ ax ay bx by_ x y ≥ 0)||(decide (crJ ax ay bx by_ (x+s) y ≥ 0)||(decide (crJ ax ay bx by_ x (y+s) ≥ 0)||decide (crJ ax ay bx by_ (x+s) (y+s) ≥ 0))))&&
  (decide (crJ ax ay bx by_ x y≤0)||(decide (crJ ax ay bx by_ (x+s) y≤0)||(decide (crJ ax ay bx by_ x (y+s)≤0)||decide (crJ ax ay bx by_ (x+s) (y+s)≤0))))):=by
   unfold Zk
   rw[ia,it,it,it,it,it,it,c0 x x1 (by omega),c0 y y1 (by omega),c1 x x1 (by omega),c1 y y1 (by omega),t x y (by omega) (by omega) (by omega) (by omega),t (x+s) y (by omega) (by omega) (by omega) (by omega),t x (y+s) (by omega) (by omega) (by omega) (by omega),t (x+s) (y+s) (by omega) (by omega) (by omega) (by omega),Bool.or_assoc,Bool.or_assoc,Bool.or_assoc,Bool.or_assoc]
   rfl
 refine⟨fun h=>?_,fun h=>?_⟩
 ·rw[cd] at h
  show false=metI x y s ax ay bx by_
  unfold metI
  rw[h];rfl
 ·rw[cd] at h
  rw[vl]
  show _=metI x y s ax ay bx by_
  unfold metI
  rw[h];rfl
theorem WE:aJ Tryz.prog 39 (aC [.v, .v, .v] aA (V7 aA bN UT UP)):=by
 refine aH (un:=⟨true,some [3,4,5,6,7,8,9,10,11,12,56,58]⟩) tok nF aL (fn:=Tryz.f39) ?_
 intro w Wr args bs r hg ho hWr A L k hA hL hk
 obtain⟨B,hB⟩:=exE UP
 obtain⟨C,hC⟩:=exE UT
 obtain⟨U,hU⟩:=exE bN
 try rw[← hB]
 try rw[← hC]
 try rw[← hU]
 try rw[← hA]
 unfold V7 at hg
 split at hg <;> cases hg
 rename_i x y s ax ay am bx by_ bm
 have o1:=(aG ho).1
 have o2:=(aG (aG ho).2).1
 have o3:=(aG (aG (aG ho).2).2).1
 rw[← hU, ← hA] at o2 o3
 rw[← hC] at o1
 clear ho
 have f:=ZC A hA U hU C hC B hB o1 o2 o3
 clear o1 o2 o3
 cbv
 repeat' first | ((with_reducible intro hb);cbv) | with_reducible refine And.intro ?_ ?_
 ·refine hk _ _ (bE.pure rfl fun ρ=>BH ?_)
  rw[← hB]
  exact f.c1 hb
 ·refine hk _ _ (bE.pure rfl fun ρ=>yQ ?_)
  rw[← hB]
  exact f.c0 (by assumption)
def eF1 (A:Alg) (U:SU) (C:SC) (B:SB):List (Nat×bU):=(39,aC [.v, .v, .v] A (V7 A U C B)) :: ([])
theorem X3:COK Tryz.prog (aN (eF1 aA bN UT UP)):=aB WE (bC)
def XF (A:Alg) (U:SU) (C:SC) (B:SB):List CV→List Blk→Option LW
 | [.g [.s (.hs 0), .s (.hs 1), .s (.hs 2)], .g [.s (.int .i64 x), .s (.int .i64 y), .s (.int .i64 s)]],[.vec false .i3 V, .vec false .i3 S, .vec false .pt l]=>some ⟨[A.cmp .eql (U.check V S l) 0,C.is x y s], .c (.s (.hs 3)),[.vec true (.int .i64) (B.all x y s V S l)],[]⟩
 | _,_=>none
structure AqF (A:Alg) (U:SU) (C:SC) (B:SB) (x y s:Int) (V S:List (Int×Int×Int)) (k:Int) (R:List Int):Prop where
 o1:A.cmp .leq 0 k=true
 a0:A.cmp .leq 0 (A.get S k (0,0,0)).1=true
 a1:A.cmp .lss (A.get S k (0,0,0)).1 (A.len V)=true
 b0:A.cmp .leq 0 (A.get S k (0,0,0)).2.1=true
 b1:A.cmp .lss (A.get S k (0,0,0)).2.1 (A.len V)=true
 oa:A.not (U.out ((A.get V (A.get S k (0,0,0)).1 (0,0,0)).1,(A.get V (A.get S k (0,0,0)).1 (0,0,0)).2.1,(A.get V (A.get S k (0,0,0)).1 (0,0,0)).2.2))=true
 ob:A.not (U.out ((A.get V (A.get S k (0,0,0)).2.1 (0,0,0)).1,(A.get V (A.get S k (0,0,0)).2.1 (0,0,0)).2.1,(A.get V (A.get S k (0,0,0)).2.1 (0,0,0)).2.2))=true
 cap:A.cmp .leq (A.iadd (A.len R) (A.len [k])) 1000000=true
 n1:B.metI x y s (A.get V (A.get S k (0,0,0)).1 (0,0,0)).1 (A.get V (A.get S k (0,0,0)).1 (0,0,0)).2.1 (A.get V (A.get S k (0,0,0)).2.1 (0,0,0)).1 (A.get V (A.get S k (0,0,0)).2.1 (0,0,0)).2.1=true→Ws x y s V S [] (k+1) (A.app R [k])
 n0:B.metI x y s (A.get V (A.get S k (0,0,0)).1 (0,0,0)).1 (A.get V (A.get S k (0,0,0)).1 (0,0,0)).2.1 (A.get V (A.get S k (0,0,0)).2.1 (0,0,0)).1 (A.get V (A.get S k (0,0,0)).2.1 (0,0,0)).2.1=false→Ws x y s V S [] (k+1) R
 ad:A.bin .add .i64 k 1=k+1
 ms:(aY S - (k+1)).toNat < (aY S - k).toNat
theorem Zw {x y s:Int} {V S:List (Int×Int×Int)} {l:List Pt} {k:Int} {R:List Int} (hk:Cm V S l=0) (hc:Vq x y s=true) (h:Ws x y s V S [] k R) (A:Alg) (hA:A=aA) (U:SU) (hU:U=bN) (C:SC) (B:SB) (hB:B=UP) (hb:A.cmp .lss k (A.len S)=true):AqF A U C B x y s V S k R:=by
 have hS:=(Vo hk).2.1
 have f:=Zp (r:=[]) (by show 0≤1000;decide) hS h A hA U hU B hB hb
 subst hA hU hB
 have hb:k < aY S:=of_decide_eq_true hb
 have c:=Zn hk h.k0 hb
 have e:=W4 hk hc h.k0 hb
 have ha:=c.a
 have hbb:=c.b
 unfold nS at ha hbb
 simp only[Bool.and_eq_true,decide_eq_true_eq] at ha hbb
 have no: ∀ b:Bool,b=false→aA.not b=true:=fun b h=>by rw[h];rfl
 exact⟨f.o1,bJ _ rfl _ _ ha.1,bH _ rfl _ _ ha.2,bJ _ rfl _ _ hbb.1,bH _ rfl _ _ hbb.2,no _ c.oa,no _ c.ob,f.cap,fun g=>f.n1 (e.symm.trans g),fun g=>f.n0 (e.symm.trans g),f.ad,f.ms⟩
theorem XL:aJ Tryz.prog 16 (aR [.g [.s .i3, .s .i3, .s .pt], .a .v] aA (XF aA bN UT UP)):=by
 refine aW (un:=⟨false,some [0,1,2,3,4,5,6,11,35]⟩) tok X3 aL (fn:=Tryz.f16) ?_
 intro w Wr args bs r hg ho hWr A L k hA hL hk
 obtain⟨B,hB⟩:=exE UP
 obtain⟨C,hC⟩:=exE UT
 obtain⟨U,hU⟩:=exE bN
 try rw[← hB]
 try rw[← hC]
 try rw[← hU]
 try rw[← hA]
 unfold XF at hg
 split at hg <;> cases hg
 rename_i x y s V S l
 have o1:Cm V S l=0:=by
  have h:(Cm V S l == 0)=true:=(aG ho).1
  simpa using h
 have o2:=(aG (aG ho).2).1
 have o3:Vq x y s=true:=o2
 rw[← hC] at o2
 clear ho
 have i0:Ws x y s V S [] 0 []:=⟨Int.le_refl _,Int.natCast_nonneg _,rfl⟩
 have en:=fun k R=>(Zo A hA U hU B hB x y s V S l []).en (by subst hA hU;show(Cm V S l != 0)=false;rw[o1];rfl) k R
 cbv
 repeat' with_reducible first | (intro hb;cbv) | refine UM ?_ ?_
 refine hL _ _ _ (gM (un:=⟨false,some [0,1,2,3,4,5,6,11,35]⟩) tok X3 aL 3 (fun i hi=>by have:=hWr i hi;simp at this;show i < 3;omega) (fun p:Int×List Int=>⟨[(6,⟨[], .c (.s (.int .i64 p.1))⟩),(5,⟨[], .c (.s (.hs 5))⟩),(3,⟨[], .c (.s (.hp 4 0))⟩),(2,⟨[], .c (.s (.hp 3 0))⟩)],[(0, .vec false .i3 V),(1, .vec false .i3 S),(2, .vec false .pt l),(3, .fix true [.s (.hs 0), .s (.hs 1), .s (.hs 2)]),(4, .fix true [.s (.int .i64 x), .s (.int .i64 y), .s (.int .i64 s)]),(5, .vec true (.int .i64) p.2)],6⟩)
  (fun p=>Ws x y s V S [] p.1 p.2) (fun p=>(aY S - p.1).toNat) (0,[]) i0 [(5, .nils)] ?_ (fun _=>Nat.le_of_ble_eq_true rfl) ?_)
 ·exact⟨⟨⟨rfl,rfl,fun _=>rfl⟩,⟨rfl,rfl,fun _=>rfl⟩,⟨rfl,rfl,fun _=>rfl⟩,⟨rfl,rfl,fun _=>rfl⟩,trivial⟩,⟨⟨rfl,rfl,rfl,rfl,fun h=>h⟩,⟨rfl,rfl,rfl,rfl,fun h=>h⟩,⟨rfl,rfl,rfl,rfl,fun h=>h⟩,⟨rfl,rfl,fun _=>rfl⟩,⟨rfl,rfl,fun _=>rfl⟩,rfl,trivial⟩,rfl,rfl,rfl,rfl⟩
 clear i0
 rintro⟨k,R⟩ hI A2 L2 k2 hA2 hL2 hnext hexit hret
 have st:=fun hb=>Zw o1 o3 hI A2 hA2 U hU C B hB hb
 have en:=en k R hI
 rw[hA, ← hA2] at en
 clear hI
 rw[← hA2, ← hU, ← hC, ← hB]
 cbv
 repeat' with_reducible first | (intro hb;cbv) | refine UM ?_ ?_
 all_goals first | assumption | exact(st (by assumption)).o1 | exact(st (by assumption)).a0 | exact(st (by assumption)).a1 | exact(st (by assumption)).b0 | exact(st (by assumption)).b1 | exact(st (by assumption)).oa | exact(st (by assumption)).ob | exact(st (by assumption)).cap | skip
 ·have st:=st (by assumption)
  refine hnext _ (k+1,_) [(5, .hs 7)] (st.n1 hb) st.ms ?_
  have ead:=st.ad
  subst hA2 hA
  exact⟨⟨⟨rfl,rfl,leI ead⟩,⟨rfl,rfl,fun _=>rfl⟩,⟨rfl,rfl,fun _=>rfl⟩,⟨rfl,rfl,fun _=>rfl⟩,trivial⟩,⟨⟨rfl,rfl,rfl,rfl,fun h=>h⟩,⟨rfl,rfl,rfl,rfl,fun h=>h⟩,⟨rfl,rfl,rfl,rfl,fun h=>h⟩,⟨rfl,rfl,fun _=>rfl⟩,⟨rfl,rfl,fun _=>rfl⟩,⟨rfl,rfl,rfl,rfl,fun h=>h⟩,trivial⟩,rfl,rfl,rfl,rfl⟩
 ·have st:=st (by assumption)
  refine hnext _ (k+1,R) [] (st.n0 hb) st.ms ?_
  have ead:=st.ad
  subst hA2 hA
  exact⟨⟨⟨rfl,rfl,leI ead⟩,⟨rfl,rfl,fun _=>rfl⟩,⟨rfl,rfl,fun _=>rfl⟩,⟨rfl,rfl,fun _=>rfl⟩,trivial⟩,⟨⟨rfl,rfl,rfl,rfl,fun h=>h⟩,⟨rfl,rfl,rfl,rfl,fun h=>h⟩,⟨rfl,rfl,rfl,rfl,fun h=>h⟩,⟨rfl,rfl,fun _=>rfl⟩,⟨rfl,rfl,fun _=>rfl⟩,⟨rfl,rfl,rfl,rfl,fun h=>h⟩,trivial⟩,rfl,rfl,rfl,rfl⟩
 ·have e:=en hb
  apply hexit
  clear hexit hnext hret st en
  cbv
  exact hk _ _ (bW.one (t:=5) rfl rfl (Nat.le_of_ble_eq_true rfl) (fun ρ=>rfl) rfl (.vec (by subst hA hA2 hB;exact e)))
end Go.Eng
