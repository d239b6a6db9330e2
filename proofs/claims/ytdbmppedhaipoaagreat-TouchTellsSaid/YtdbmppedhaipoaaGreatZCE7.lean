
import Derived.Test.YtdbmppedhaipoaaGreatZCE5
import Derived.Test.YtdbmppedhaipoaaGreatZCD8
set_option linter.all false
set_option exponentiation.threshold 3000
set_option maxRecDepth 100000
set_option maxHeartbeats 2000000
namespace Go.Eng
open Go.Proofs
def YV (A:Alg):List CV→List Blk→Option LW
 | [.s (.int .i64 k), .s (.hp 1 0)],[.vec true (.int .i64) l, .fix true [.s (.hs 0)]]=>some ⟨[A.cmp .leq (A.iadd (A.len l) (A.len [k])) 1000000], .c (.s (.tt true)),[.vec true (.int .i64) (A.app l [k])],[.gone, .fix true [.s (.hs 2)]]⟩
 | _,_=>none
def YX:List CV→List Blk→Option LW
 | [.s (.int .i64 k), .s (.hp 0 0)],[.fix true [.s (.bool b)]]=>some ⟨[], .c (.s (.tt false)),[],[.fix true [.s (.bool true)]]⟩
 | _,_=>none
theorem Yr:aJ Tryz.prog 41 (aR [.a .v, .a (.w [.sw (.int .i64)])] aA (YV aA)):=by
 refine aW (un:=⟨false,some [0,1,3]⟩) tok nF aL (fn:=Tryz.f41) ?_
 intro w Wr args bs r hg ho hWr A L k hA hL hk
 try rw[← hA]
 unfold YV at hg
 split at hg <;> cases hg
 rename_i k l
 have o1:=(aG ho).1
 rw[← hA] at o1
 clear ho
 cbv
 repeat' with_reducible first | (intro hb;cbv) | refine UM ?_ ?_
 ·exact o1
 exact hk _ _ (bW.cell (t:=3) (i:=0) (j:=1) rfl rfl rfl (.inl (Nat.le_of_ble_eq_true rfl)) (fun ρ=>rfl) rfl (.vec (by rw[hA])) rfl)
theorem Yt:aJ Tryz.prog 42 (aR [.a .v, .a (.w [.v])] aA (YX)):=by
 refine aW (un:=⟨false,some [0,1,3]⟩) tok nF aL (fn:=Tryz.f42) ?_
 intro w Wr args bs r hg ho hWr A L k hA hL hk
 try rw[← hA]
 unfold YX at hg
 split at hg <;> cases hg
 cbv
 exact hk _ _ (bW.wrote (i:=0) rfl rfl rfl (fun ρ=>rfl) rfl ⟨rfl,rfl,fun _=>rfl⟩)
def eE1 (A:Alg) (U:SU) (B:SB):List (Nat×bU):=(41,aR [.a .v, .a (.w [.sw (.int .i64)])] A (YV A)) :: (42,aR [.a .v, .a (.w [.v])] A (YX)) :: (46,aR [.g [.s .i3, .s .i3, .s .pt]] A (uI U)) :: (65,aR [.g [.s .i3, .s .i3, .s .pt], .a .v] A (E8 U)) :: (12,aC [.v, .v, .v] A (VW B)) :: ([])
theorem W0:COK Tryz.prog (aN (eE1 aA bN UP)):=aB Yr (aB Yt (aB wE (aB DZ (aB Vt (bC)))))
def YT (A:Alg) (U:SU) (B:SB):List CV→List Blk→Option LW
 | [.g [.s (.hs 0), .s (.hs 1), .s (.hs 2)], .g [.s (.int .i64 x), .s (.int .i64 y), .s (.int .i64 s)], .s (.fn 41 [(4,0)])],[.vec false .i3 V, .vec false .i3 S, .vec false .pt l, .vec true (.int .i64) r, .fix true [.s (.hs 3)]]=>some ⟨[U.inb V,A.cmp .leq (A.len r) 1000], .t [],[.vec true (.int .i64) (A.app r (B.all x y s V S l))],[.gone, .fix true [.s (.hs 5)]]⟩
 | _,_=>none
def YU (U:SU) (B:SB):List CV→List Blk→Option LW
 | [.g [.s (.hs 0), .s (.hs 1), .s (.hs 2)], .g [.s (.int .i64 x), .s (.int .i64 y), .s (.int .i64 s)], .s (.fn 42 [(3,0)])],[.vec false .i3 V, .vec false .i3 S, .vec false .pt l, .fix true [.s (.bool false)]]=>some ⟨[U.inb V], .t [],[],[.fix true [.s (.bool (B.any x y s V S l))]]⟩
 | _,_=>none
structure Ws (x y s:Int) (V S:List (Int×Int×Int)) (r:List Int) (k:Int) (R:List Int):Prop where
 k0:0≤k
 k1:k≤aY S
 e:R=r++V4 x y s V S k.toNat
theorem Wc (x y s:Int) (V S:List (Int×Int×Int)): ∀ k,(V4 x y s V S k).length≤k
 | 0=>Nat.le_refl _
 | k+1=>by
  have:=Wc x y s V S k
  unfold V4
  split
  ·rw[List.length_append];simp;omega
  ·omega
structure OfS (A:Alg) (U:SU) (B:SB) (x y s:Int) (V S:List (Int×Int×Int)) (r:List Int) (k:Int) (R:List Int):Prop where
 o1:A.cmp .leq 0 k=true
 cap:A.cmp .leq (A.iadd (A.len R) (A.len [k])) 1000000=true
 n1:B.seg x y s (U.pt V (A.get S k (0,0,0)).1) (U.pt V (A.get S k (0,0,0)).2.1)=true→Ws x y s V S r (k+1) (A.app R [k])
 n0:B.seg x y s (U.pt V (A.get S k (0,0,0)).1) (U.pt V (A.get S k (0,0,0)).2.1)=false→Ws x y s V S r (k+1) R
 ad:A.bin .add .i64 k 1=k+1
 ms:(aY S - (k+1)).toNat < (aY S - k).toNat
theorem Zp {x y s:Int} {V S:List (Int×Int×Int)} {r:List Int} {k:Int} {R:List Int} (hr:r.length≤1000) (hS:aY S < 1000) (h:Ws x y s V S r k R) (A:Alg) (hA:A=aA) (U:SU) (hU:U=bN) (B:SB) (hB:B=UP) (hb:A.cmp .lss k (A.len S)=true):OfS A U B x y s V S r k R:=by
 subst hA hU hB
 obtain⟨k0,k1,e⟩:=h
 have hb:k < aY S:=of_decide_eq_true hb
 have hl:R.length≤2000:=by
  rw[e,List.length_append]
  have:=Wc x y s V S k.toNat
  omega
 have ek:(k+1).toNat=k.toNat+1:=by omega
 have ek2:((k.toNat:Nat):Int)=k:=Int.toNat_of_nonneg k0
 refine⟨bJ _ rfl _ _ k0,bJ _ rfl _ _ (by show(R.length:Int)+1≤1000000;omega),fun h=>⟨by omega,by omega,?_⟩,fun h=>⟨by omega,by omega,?_⟩,by show IntKind.i64.wrap _=_;rw[IntKind.wrap_i64];omega,by omega⟩
 ·have h:VM x y s V S k=true:=h
  rw[ek,V4,ek2,if_pos h, ← List.append_assoc, ← e]
  rfl
 ·have h:VM x y s V S k=false:=h
  rw[ek,V4,ek2,if_neg (by rw[h];decide)]
  exact e
structure OfF (A:Alg) (U:SU) (B:SB) (x y s:Int) (V S:List (Int×Int×Int)) (l:List Pt) (r:List Int):Prop where
 c1:A.cmp .neq (U.check V S l) 0=true→A.app r (B.all x y s V S l)=r
 c0:A.cmp .neq (U.check V S l) 0=false→aY S < 1000
 en:A.cmp .neq (U.check V S l) 0=false→ ∀ k R,Ws x y s V S r k R→A.cmp .lss k (A.len S)=false→R=A.app r (B.all x y s V S l)
theorem Vo {V S:List (Int×Int×Int)} {l:List Pt} (h:Cm V S l=0):aY V < 1000∧aY S < 1000∧aY l < 1000:=by
 refine uF (l:=l) ?_
 unfold Cm at h
 cases hf:iO V S l
 ·rw[hf] at h;simp at h
 ·rfl
theorem Zo (A:Alg) (hA:A=aA) (U:SU) (hU:U=bN) (B:SB) (hB:B=UP) (x y s:Int) (V S:List (Int×Int×Int)) (l:List Pt) (r:List Int):OfF A U B x y s V S l r:=by
 subst hA hU hB
 have hz:aA.cmp .neq (bN.check V S l) 0=false→Cm V S l=0:=fun h=>by
  have h:(Cm V S l != 0)=false:=h
  simpa using h
 refine⟨fun h=>?_,fun h=>(Vo (hz h)).2.1,fun h k R hI hk=>?_⟩
 ·have h:(Cm V S l != 0)=true:=h
  rw[bne_iff_ne] at h
  show r++(if Cm V S l=0 then V4 x y s V S S.length else[])=r
  rw[if_neg h,List.append_nil]
 ·have hk: ¬ k < aY S:=of_decide_eq_false hk
  have:k=aY S:=by have:=hI.k1;omega
  show R=r++(if Cm V S l=0 then V4 x y s V S S.length else[])
  rw[if_pos (hz h),hI.e,this]
  rfl
theorem Yp:aJ Tryz.prog 40 (aR [.g [.s .i3, .s .i3, .s .pt], .a .v, .a (.f [.w [.sw (.int .i64)]])] aA (YT aA bN UP)):=by
 refine aW (un:=⟨false,some [1000029,0,1,2,3,4,6,7,10,12,13,14,15,34]⟩) tok W0 aL (fn:=Tryz.f40) ?_
 intro w Wr args bs r hg ho hWr A L k hA hL hk
 obtain⟨B,hB⟩:=exE UP
 obtain⟨U,hU⟩:=exE bN
 try rw[← hB]
 try rw[← hU]
 try rw[← hA]
 unfold YT at hg
 split at hg <;> cases hg
 rename_i x y s V S l r
 have o1:=(aG ho).1
 have o2:=(aG (aG ho).2).1
 rw[← hU] at o1
 have hr:r.length≤1000:=by have:(r.length:Int)≤1000:=of_decide_eq_true o2;omega
 clear ho o2
 have f:=Zo A hA U hU B hB x y s V S l r
 cbv
 repeat' with_reducible first | (intro hb;cbv) | refine UM ?_ ?_
 ·exact o1
 ·have e:=f.c1 hb
  exact hk _ _ (bW.cell (t:=3) (i:=3) (j:=4) rfl rfl rfl (.inr rfl) (fun ρ=>rfl) rfl (.vec (by rw[← hA, ← hB];exact e.symm)) rfl)
 have hS:=f.c0 hb
 have en:=f.en hb
 have i0:Ws x y s V S r 0 r:=⟨Int.le_refl _,Int.natCast_nonneg _,(List.append_nil r).symm⟩
 clear f
 refine hL _ _ _ (gM (un:=⟨false,some [1000029,0,1,2,3,4,6,7,10,12,13,14,15,34]⟩) tok W0 aL 5 (fun i hi=>by have:=hWr i hi;simp at this;show i < 5;omega) (fun p:Int×List Int=>⟨[(14,⟨[], .c (.s (.int .i64 p.1))⟩),(13,⟨[], .c (.s (.int .i64 (A.len S)))⟩),(12,⟨[], .c (.s (.hs 1))⟩),(4,⟨[], .c (.s (.hp 6 0))⟩),(3,⟨[], .c (.s (.hp 5 0))⟩),(2,⟨[], .c (.s (.fn 41 [(4,0)]))⟩)],[(0, .vec false .i3 V),(1, .vec false .i3 S),(2, .vec false .pt l),(5, .fix true [.s (.hs 0), .s (.hs 1), .s (.hs 2)]),(6, .fix true [.s (.int .i64 x), .s (.int .i64 y), .s (.int .i64 s)]),(4, .fix true [.s (.hs 7)]),(7, .vec true (.int .i64) p.2)],8⟩)
  (fun p=>Ws x y s V S r p.1 p.2) (fun p=>(aY S - p.1).toNat) (0,r) i0 [(7, .hs 3)] ?_ (fun _=>Nat.le_of_ble_eq_true rfl) ?_)
 ·exact⟨⟨⟨rfl,rfl,fun _=>rfl⟩,⟨rfl,rfl,fun _=>rfl⟩,⟨rfl,rfl,fun _=>rfl⟩,⟨rfl,rfl,fun _=>rfl⟩,⟨rfl,rfl,fun _=>rfl⟩,⟨rfl,rfl,fun _=>rfl⟩,trivial⟩,⟨⟨rfl,rfl,rfl,rfl,fun h=>h⟩,⟨rfl,rfl,rfl,rfl,fun h=>h⟩,⟨rfl,rfl,rfl,rfl,fun h=>h⟩,⟨rfl,rfl,fun _=>rfl⟩,⟨rfl,rfl,fun _=>rfl⟩,⟨rfl,rfl,fun _=>rfl⟩,⟨rfl,rfl,rfl,rfl,fun h=>h⟩,trivial⟩,rfl,rfl,rfl,rfl⟩
 clear i0
 rintro⟨k,R⟩ hI A2 L2 k2 hA2 hL2 hnext hexit hret
 have st:=fun hb=>Zp hr hS hI A2 hA2 U hU B hB hb
 have en:=en k R hI
 rw[hA, ← hA2] at en
 clear hI
 rw[hA, ← hA2, ← hU, ← hB]
 cbv
 repeat' with_reducible first | (intro hb;cbv) | refine UM ?_ ?_
 all_goals first | exact(st hb).o1 | exact hb | skip
 ·have st:=st hb
  have b1: ∀ b c,b=c→A2.beq b c=true:=fun b c h=>by subst hA2 h;show(b == b)=true;cases b <;> rfl
  have ead:=st.ad
  refine IL (B.seg x y s (U.pt V (A2.get S k (0,0,0)).1) (U.pt V (A2.get S k (0,0,0)).2.1)) (fun hc=>Or.inl ?_) (fun hc=>Or.inr ?_)
  ·repeat' with_reducible first | (intro hb;cbv) | refine UM ?_ ?_
   all_goals first | exact o1 | exact b1 _ _ hc | exact st.cap | skip
   refine hnext _ (k+1,_) [(7, .hs 9)] (st.n1 hc) st.ms ?_
   subst hA2 hA
   exact⟨⟨⟨rfl,rfl,leI ead⟩,⟨rfl,rfl,fun _=>rfl⟩,⟨rfl,rfl,fun _=>rfl⟩,⟨rfl,rfl,fun _=>rfl⟩,⟨rfl,rfl,fun _=>rfl⟩,⟨rfl,rfl,fun _=>rfl⟩,trivial⟩,⟨⟨rfl,rfl,rfl,rfl,fun h=>h⟩,⟨rfl,rfl,rfl,rfl,fun h=>h⟩,⟨rfl,rfl,rfl,rfl,fun h=>h⟩,⟨rfl,rfl,fun _=>rfl⟩,⟨rfl,rfl,fun _=>rfl⟩,⟨rfl,rfl,fun _=>rfl⟩,⟨rfl,rfl,rfl,rfl,fun h=>h⟩,trivial⟩,rfl,rfl,rfl,rfl⟩
  ·repeat' with_reducible first | (intro hb;cbv) | refine UM ?_ ?_
   all_goals first | exact o1 | exact b1 _ _ hc | skip
   refine hnext _ (k+1,R) [] (st.n0 hc) st.ms ?_
   subst hA2 hA
   exact⟨⟨⟨rfl,rfl,leI ead⟩,⟨rfl,rfl,fun _=>rfl⟩,⟨rfl,rfl,fun _=>rfl⟩,⟨rfl,rfl,fun _=>rfl⟩,⟨rfl,rfl,fun _=>rfl⟩,⟨rfl,rfl,fun _=>rfl⟩,trivial⟩,⟨⟨rfl,rfl,rfl,rfl,fun h=>h⟩,⟨rfl,rfl,rfl,rfl,fun h=>h⟩,⟨rfl,rfl,rfl,rfl,fun h=>h⟩,⟨rfl,rfl,fun _=>rfl⟩,⟨rfl,rfl,fun _=>rfl⟩,⟨rfl,rfl,fun _=>rfl⟩,⟨rfl,rfl,rfl,rfl,fun h=>h⟩,trivial⟩,rfl,rfl,rfl,rfl⟩
 ·have e:=en hb
  apply hexit
  clear hexit hnext hret st en
  cbv
  exact hk _ _ (bW.cell (t:=7) (i:=3) (j:=4) rfl rfl rfl (.inl (Nat.le_of_ble_eq_true rfl)) (fun ρ=>rfl) rfl (.vec (by rw[← hA2, ← hB];exact e)) rfl)
structure Zv (A:Alg) (U:SU) (B:SB) (x y s:Int) (V S:List (Int×Int×Int)) (l:List Pt):Prop where
 c1:A.cmp .neq (U.check V S l) 0=true→false=B.any x y s V S l
 c0:A.cmp .neq (U.check V S l) 0=false→aY S < 1000
 yes:A.cmp .neq (U.check V S l) 0=false→cY (aY S) (VM x y s V S)=true→true=B.any x y s V S l
 no:A.cmp .neq (U.check V S l) 0=false→cY (aY S) (VM x y s V S)=false→false=B.any x y s V S l
theorem Zc (A:Alg) (hA:A=aA) (U:SU) (hU:U=bN) (B:SB) (hB:B=UP) (x y s:Int) (V S:List (Int×Int×Int)) (l:List Pt):Zv A U B x y s V S l:=by
 subst hA hU hB
 have hz:aA.cmp .neq (bN.check V S l) 0=false→Cm V S l=0:=fun h=>by
  have h:(Cm V S l != 0)=false:=h
  simpa using h
 have e:UP.any x y s V S l=(decide (Cm V S l=0)&&cY (aY S) (VM x y s V S)):=rfl
 refine⟨fun h=>?_,fun h=>(Vo (hz h)).2.1,fun h h2=>?_,fun h h2=>?_⟩
 ·have h:(Cm V S l != 0)=true:=h
  rw[bne_iff_ne] at h
  rw[e,decide_eq_false h];rfl
 ·rw[e,h2,decide_eq_true (hz h)];rfl
 ·rw[e,h2,Bool.and_false]
theorem Yq:aJ Tryz.prog 40 (aR [.g [.s .i3, .s .i3, .s .pt], .a .v, .a (.f [.w [.v]])] aA (YU bN UP)):=by
 refine aW (un:=⟨false,some [1000029,0,1,2,3,4,6,7,10,12,13,14,15,34]⟩) tok W0 aL (fn:=Tryz.f40) ?_
 intro w Wr args bs r hg ho hWr A L k hA hL hk
 obtain⟨B,hB⟩:=exE UP
 obtain⟨U,hU⟩:=exE bN
 try rw[← hB]
 try rw[← hU]
 try rw[← hA]
 unfold YU at hg
 split at hg <;> cases hg
 rename_i x y s V S l
 have o1:=(aG ho).1
 rw[← hU] at o1
 clear ho
 have f:=Zc A hA U hU B hB x y s V S l
 have hB2:=hB
 cbv
 repeat' with_reducible first | (intro hb;cbv) | refine UM ?_ ?_
 ·exact o1
 ·have e:=f.c1 hb
  exact hk _ _ (bW.wrote (i:=3) rfl rfl rfl (fun ρ=>rfl) rfl ⟨rfl,rfl,fun _=>by rw[← hB, ← e];rfl⟩)
 have hS:=f.c0 hb
 have yes:=f.yes hb
 have no:=f.no hb
 have i0:AnI (aY S) (VM x y s V S) 0:=cH (Int.natCast_nonneg _)
 clear f
 refine hL _ _ _ (aQ (un:=⟨false,some [1000029,0,1,2,3,4,6,7,10,12,13,14,15,34]⟩) tok W0 aL (fun k:Int=>⟨[(14,⟨[], .c (.s (.int .i64 k))⟩),(13,⟨[], .c (.s (.int .i64 (A.len S)))⟩),(12,⟨[], .c (.s (.hs 1))⟩),(4,⟨[], .c (.s (.hp 5 0))⟩),(3,⟨[], .c (.s (.hp 4 0))⟩),(2,⟨[], .c (.s (.fn 42 [(3,0)]))⟩)],[(0, .vec false .i3 V),(1, .vec false .i3 S),(2, .vec false .pt l),(4, .fix true [.s (.hs 0), .s (.hs 1), .s (.hs 2)]),(5, .fix true [.s (.int .i64 x), .s (.int .i64 y), .s (.int .i64 s)]),(3, .fix true [.s (.bool false)])],6⟩)
  (fun k=>AnI (aY S) (VM x y s V S) k) (fun k=>(aY S - k).toNat) 0 i0 ?_ (fun _ i hi=>by have:=hWr i hi;simp at this;show i < 6;omega) ?_)
 ·exact⟨⟨⟨rfl,rfl,fun _=>rfl⟩,⟨rfl,rfl,fun _=>rfl⟩,⟨rfl,rfl,fun _=>rfl⟩,⟨rfl,rfl,fun _=>rfl⟩,⟨rfl,rfl,fun _=>rfl⟩,⟨rfl,rfl,fun _=>rfl⟩,trivial⟩,⟨aF rfl,aF rfl,aF rfl,aF rfl,aF rfl,aF rfl,trivial⟩,rfl,rfl⟩
 clear i0
 rintro k hI A2 L2 k2 hA2 hL2 hnext hexit hret
 have hln:A2.len S=aY S:=by subst hA2;rfl
 have st:=fun hb:A2.cmp .lss k (A2.len S)=true=>c9 hI (by omega) A2 hA2 (by rw[← hln];exact hb)
 have en:=fun hb:A2.cmp .lss k (A2.len S)=false=>eK hI A2 hA2 (by rw[← hln];exact hb)
 have hp:B.seg x y s (U.pt V (A2.get S k (0,0,0)).1) (U.pt V (A2.get S k (0,0,0)).2.1)=VM x y s V S k:=by subst hA2 hU hB;rfl
 clear hI
 rw[hA, ← hA2, ← hU, ← hB]
 cbv
 repeat' with_reducible first | (intro hb;cbv) | refine UM ?_ ?_
 all_goals first | exact(st hb).o1 | exact hb | skip
 ·have st:=st hb
  have b1: ∀ b c,b=c→A2.beq b c=true:=fun b c h=>by subst hA2 h;show(b == b)=true;cases b <;> rfl
  have ead:=st.ad
  refine IL (B.seg x y s (U.pt V (A2.get S k (0,0,0)).1) (U.pt V (A2.get S k (0,0,0)).2.1)) (fun hc=>Or.inl ?_) (fun hc=>Or.inr ?_)
  ·repeat' with_reducible first | (intro hb;cbv) | refine UM ?_ ?_
   all_goals first | exact o1 | exact b1 _ _ hc | skip
   rw[hp] at hc
   have e:=yes (st.ht hc)
   apply hret
   clear hexit hnext hret st en
   cbv
   exact hk _ _ (bW.wrote (i:=3) rfl rfl rfl (fun ρ=>rfl) rfl ⟨rfl,rfl,fun _=>by rw[← hB, ← e];rfl⟩)
  ·repeat' with_reducible first | (intro hb;cbv) | refine UM ?_ ?_
   all_goals first | exact o1 | exact b1 _ _ hc | skip
   rw[hp] at hc
   refine hnext _ (k+1) (st.nx hc) st.ms ?_
   subst hA2 hA
   exact⟨⟨⟨rfl,rfl,leI ead⟩,⟨rfl,rfl,fun _=>rfl⟩,⟨rfl,rfl,fun _=>rfl⟩,⟨rfl,rfl,fun _=>rfl⟩,⟨rfl,rfl,fun _=>rfl⟩,⟨rfl,rfl,fun _=>rfl⟩,trivial⟩,⟨aF rfl,aF rfl,aF rfl,aF rfl,aF rfl,aF rfl,trivial⟩,rfl,rfl⟩
 ·have e:=no (en hb).no
  apply hexit
  clear hexit hnext hret st en
  cbv
  exact hk _ _ (bW.wrote (i:=3) rfl rfl rfl (fun ρ=>rfl) rfl ⟨rfl,rfl,fun _=>by rw[← hB, ← e];rfl⟩)
def W2 (U:SU) (B:SB):List CV→List Blk→Option LW
 | [.g [.s (.hs 0), .s (.hs 1), .s (.hs 2)], .g [.s (.int .i64 x), .s (.int .i64 y), .s (.int .i64 s)]],[.vec false .i3 V, .vec false .i3 S, .vec false .pt l]=>some ⟨[U.inb V], .c (.s (.hs 3)),[.vec true (.int .i64) (B.all x y s V S l)],[]⟩
 | _,_=>none
def W3 (U:SU) (B:SB):List CV→List Blk→Option LW
 | [.g [.s (.hs 0), .s (.hs 1), .s (.hs 2)], .g [.s (.int .i64 x), .s (.int .i64 y), .s (.int .i64 s)]],[.vec false .i3 V, .vec false .i3 S, .vec false .pt l]=>some ⟨[U.inb V], .c (.s (.bool (B.any x y s V S l))),[],[]⟩
 | _,_=>none
def eE2 (A:Alg) (U:SU) (B:SB):List (Nat×bU):=(40,aR [.g [.s .i3, .s .i3, .s .pt], .a .v, .a (.f [.w [.sw (.int .i64)]])] A (YT A U B)) :: ([])
theorem YQ:COK Tryz.prog (aN (eE2 aA bN UP)):=aB Yp (bC)
theorem WF:aJ Tryz.prog 17 (aR [.g [.s .i3, .s .i3, .s .pt], .a .v] aA (W2 bN UP)):=by
 refine aW (un:=⟨false,some [0,1,2,3,4,5,10]⟩) tok YQ aL (fn:=Tryz.f17) ?_
 intro w Wr args bs r hg ho hWr A L k hA hL hk
 obtain⟨B,hB⟩:=exE UP
 obtain⟨U,hU⟩:=exE bN
 try rw[← hB]
 try rw[← hU]
 try rw[← hA]
 unfold W2 at hg
 split at hg <;> cases hg
 rename_i x y s V S l
 have o1:=(aG ho).1
 rw[← hU] at o1
 clear ho
 cbv
 repeat' with_reducible first | (intro hb;cbv) | refine UM ?_ ?_
 ·exact o1
 ·subst hA;decide +kernel
 exact hk _ _ (bW.one (t:=6) rfl rfl (Nat.le_of_ble_eq_true rfl) (fun ρ=>rfl) rfl (.vec (by subst hA hB;rfl)))
def eE3 (A:Alg) (U:SU) (B:SB):List (Nat×bU):=(40,aR [.g [.s .i3, .s .i3, .s .pt], .a .v, .a (.f [.w [.v]])] A (YU U B)) :: ([])
theorem YR:COK Tryz.prog (aN (eE3 aA bN UP)):=aB Yq (bC)
theorem WG:aJ Tryz.prog 18 (aR [.g [.s .i3, .s .i3, .s .pt], .a .v] aA (W3 bN UP)):=by
 refine aW (un:=⟨false,some [0,1,2,3,4,5,10]⟩) tok YR aL (fn:=Tryz.f18) ?_
 intro w Wr args bs r hg ho hWr A L k hA hL hk
 obtain⟨B,hB⟩:=exE UP
 obtain⟨U,hU⟩:=exE bN
 try rw[← hB]
 try rw[← hU]
 try rw[← hA]
 unfold W3 at hg
 split at hg <;> cases hg
 rename_i x y s V S l
 have o1:=(aG ho).1
 rw[← hU] at o1
 clear ho
 cbv
 repeat' with_reducible first | (intro hb;cbv) | refine UM ?_ ?_
 ·exact o1
 exact hk _ _ (bW.pure rfl rfl fun ρ=>dB (by subst hB;rfl))
end Go.Eng
