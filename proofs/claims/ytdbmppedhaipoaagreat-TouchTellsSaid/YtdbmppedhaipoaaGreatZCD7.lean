
import Derived.Test.YtdbmppedhaipoaaGreatZCD3
import Derived.Test.YtdbmppedhaipoaaGreatZCRB
import Derived.Test.YtdbmppedhaipoaaGreatZCVA
set_option linter.all false
set_option exponentiation.threshold 3000
set_option maxRecDepth 100000
set_option maxHeartbeats 2000000
namespace Go.Eng
open Go.Proofs
def E8 (U:SU):List CV→List Blk→Option LW
 | [.g [.s (.hs 0), .s (.hs 1), .s (.hs 2)], .s (.int .i64 i)],[.vec false .i3 V, .vec false .i3 S, .vec false .pt l]=>some ⟨[U.inb V], .c (.g [.P (U.pt V i)]),[],[]⟩
 | _,_=>none
def CZ (A:Alg) (U:SU):List CV→List Blk→Option LW
 | [.g [.s (.hs 0), .s (.hs 1), .s (.hs 2)], .g [.P p]],[.vec false .i3 V, .vec false .i3 S, .vec false .pt l]=>some ⟨[U.inb V,A.cmp .lss (A.len S) 1000000], .c (.s (.bool (U.hole V S p))),[],[]⟩
 | _,_=>none
def JI (A:Alg) (U:SU):List CV→List Blk→Option LW
 | [.g [.P p], .s (.hp 3 0)],[.vec false .i3 V, .vec false .i3 S, .vec false .pt l, .fix false [.s (.hs 0), .s (.hs 1), .s (.hs 2)]]=>some ⟨[U.inb V,A.cmp .lss (A.len S) 1000000], .c (.s (.bool (A.not (U.hole V S p)))),[],[]⟩
 | _,_=>none
def Jt (A:Alg) (U:SU):List CV→List Blk→Option LW
 | [.s (.hs 0), .s (.fn 75 [(4,0)])],[.vec false .pt h, .vec false .i3 V, .vec false .i3 S, .vec false .pt l, .fix false [.s (.hs 1), .s (.hs 2), .s (.hs 3)]]=>some ⟨[U.inb V,A.cmp .lss (A.len S) 1000000,A.cmp .lss (A.len h) 1000000], .c (.s (.int .i64 (U.idxH V S h))),[],[]⟩
 | _,_=>none
def FC (A:Alg) (U:SU):List CV→List Blk→Option LW
 | [.s (.hs 0), .s (.fn 75 [(4,0)])],[.vec false .pt h, .vec false .i3 V, .vec false .i3 S, .vec false .pt l, .fix false [.s (.hs 1), .s (.hs 2), .s (.hs 3)]]=>some ⟨[U.inb V,A.cmp .lss (A.len S) 1000000,A.cmp .lss (A.len h) 1000000], .c (.s (.bool (U.anyH V S h))),[],[]⟩
 | _,_=>none
structure BxF (A:Alg) (U:SU) (V:List (Int×Int×Int)) (i:Int):Prop where
 x0:A.cmp .leq (-9223372036854775808) (U.ax V i)=true
 x1:A.cmp .lss (U.ax V i) 9223372036854775808=true
 y0:A.cmp .leq (-9223372036854775808) (U.ay V i)=true
 y1:A.cmp .lss (U.ay V i) 9223372036854775808=true
theorem HM {V:List (Int×Int×Int)} (h:bN.inb V=true) (i:Int):(-9223372036854775808≤axV V i∧axV V i < 9223372036854775808)∧(-9223372036854775808≤ayV V i∧ayV V i < 9223372036854775808):=by
 unfold axV ayV
 cases hh:nS V i
 ·simp
 ·simp only[if_true]
  unfold nS at hh
  simp only[Bool.and_eq_true,decide_eq_true_eq] at hh
  have hi:i.toNat < V.length:=by unfold aY at hh;omega
  have e:cK V i=V[i.toNat]:=by
   show(V[i.toNat]?).getD _=_
   rw[List.getElem?_eq_getElem hi];rfl
  rw[e]
  have:=List.all_eq_true.1 (show V.all _=true from h) _ (List.getElem_mem hi)
  simp only[Bool.and_eq_true,decide_eq_true_eq] at this
  exact⟨this.1,this.2.1⟩
theorem Sx {V:List (Int×Int×Int)} (h:bN.inb V=true) (A:Alg) (hA:A=aA) (U:SU) (hU:U=bN) (i:Int):BxF A U V i:=by
 subst hU
 obtain⟨⟨h1,h2⟩,h3,h4⟩:=HM h i
 exact⟨bJ A hA _ _ h1,bH A hA _ _ h2,bJ A hA _ _ h3,bH A hA _ _ h4⟩
def uB0 (A:Alg) (U:SU) (H:SH):List (Nat×bU):=(96,aR [.g [.s .i3, .s .i3, .s .pt], .a .v] A (Mk U)) :: (83,aC [.v, .v] A (FD A H)) :: ([])
theorem Rk:COK Tryz.prog (aN (uB0 aA bN bD)):=aB Ae (aB DF (bC))
theorem DZ:aJ Tryz.prog 65 (aR [.g [.s .i3, .s .i3, .s .pt], .a .v] aA (E8 bN)):=by
 refine aW (un:=⟨false,some [0,1,2,4,5]⟩) tok Rk aL (fn:=Tryz.f65) ?_
 intro w Wr args bs r hg ho hWr A L k hA hL hk
 obtain⟨H,hH⟩:=exE bD
 obtain⟨U,hU⟩:=exE bN
 try rw[← hH]
 try rw[← hU]
 try rw[← hA]
 unfold E8 at hg
 split at hg <;> cases hg
 rename_i i V S l
 have b:=Sx (aG ho).1 A hA U hU i
 clear ho
 have e:H.at_ (U.ax V i) (U.ay V i)=U.pt V i:=by subst hH hU;rfl
 cbv
 repeat' with_reducible first | (intro hb;cbv) | refine UM ?_ ?_
 all_goals first | exact b.x0 | exact b.x1 | exact b.y0 | exact b.y1 | skip
 refine hk _ _ (bW.pure rfl rfl fun ρ=>dP ?_)
 subst hU
 exact e
structure OrF (A:Alg) (U:SU) (H:SH) (x:Rt):Prop where
 r:A.ite (A.ite (A.ite (A.not (H.all [H.at_ 0 0,⟨x,(H.at_ 0 0).Y⟩])) true (A.not (H.all [⟨x,(H.at_ 0 0).Y⟩,H.at_ 64 0]))) true (A.cmp .geq (H.cmp (H.at_ 0 0) ⟨x,(H.at_ 0 0).Y⟩) 0)) true (A.cmp .geq (H.cmp ⟨x,(H.at_ 0 0).Y⟩ (H.at_ 64 0)) 0)=U.outR x
theorem RL (A:Alg) (hA:A=aA) (U:SU) (hU:U=bN) (H:SH) (hH:H=bD) (x:Rt):OrF A U H x:=by
 subst hA hU hH
 refine⟨?_⟩
 rw[dR,dR,dR,Bool.or_assoc,Bool.or_assoc]
 rfl
structure HlI (p:Pt) (k:Nat):Prop where
 k2:k≤2
 x:1≤k→outR p.X=false
 y:2≤k→outR p.Y=false
structure HoF (A:Alg) (U:SU) (V S:List (Int×Int×Int)) (p:Pt):Prop where
 x:U.outR p.X=true→false=U.hole V S p
 y:U.outR p.Y=true→false=U.hole V S p
 h:cY (aY S) (Di V S p)=true→false=U.hole V S p
 r:U.outR p.X=false→U.outR p.Y=false→cY (aY S) (Di V S p)=false→true=U.hole V S p
theorem SI (A:Alg) (U:SU) (hU:U=bN) (V S:List (Int×Int×Int)) (p:Pt):HoF A U V S p:=by
 subst hU
 have e:bN.hole V S p=(!bN.outR p.X&&(!bN.outR p.Y&& !cY (aY S) (Di V S p))):=rfl
 refine⟨fun h=>?_,fun h=>?_,fun h=>?_,fun h1 h2 h3=>?_⟩
 ·rw[e,h];rfl
 ·rw[e,h];cases bN.outR p.X <;> rfl
 ·rw[e,h];cases bN.outR p.X <;> cases bN.outR p.Y <;> rfl
 ·rw[e,h1,h2,h3];rfl
def uB1 (A:Alg) (U:SU) (H:SH) (J:SJ):List (Nat×bU):=(65,aR [.g [.s .i3, .s .i3, .s .pt], .a .v] A (E8 U)) :: (83,aC [.v, .v] A (FD A H)) :: (113,aC [.v, .v] A (CQ H)) :: (114,aC [.v, .v, .v] A (Mn A H J)) :: ([])
theorem Me:COK Tryz.prog (aN (uB1 aA bN bD kM)):=aB DZ (aB DF (aB yJ (aB N3 (bC))))
theorem GE:aJ Tryz.prog 76 (aR [.g [.s .i3, .s .i3, .s .pt], .a .v] aA (CZ aA bN)):=by
 refine aW (un:=⟨false,some [0,1,2,3,4,5,6,8,9,10,11,12,13,15,16,17,24,25,26,57,62,63,64,65,89]⟩) tok Me aL (fn:=Tryz.f76) ?_
 intro w Wr args bs r hg ho hWr A L k hA hL hk
 obtain⟨H,hH⟩:=exE bD
 obtain⟨J,hJ⟩:=exE kM
 obtain⟨U,hU⟩:=exE bN
 try rw[← hH]
 try rw[← hJ]
 try rw[← hU]
 try rw[← hA]
 unfold CZ at hg
 split at hg <;> cases hg
 rename_i p V S l
 have hin:bN.inb V=true:=(aG ho).1
 have hlen:=(aG (aG ho).2).1
 simp only[aA,aP,decide_eq_true_eq] at hlen
 have hlen:aY S < 1000000:=by unfold aY;omega
 clear ho
 have hls:A.len S=aY S:=by subst hA;rfl
 have f:=SI A U hU V S p
 have z0:A.cmp .leq (-9223372036854775808) 0=true:=bJ A hA _ _ (by omega)
 have z1:A.cmp .lss 0 9223372036854775808=true:=bH A hA _ _ (by omega)
 have z2:A.cmp .leq (-9223372036854775808) 64=true:=bJ A hA _ _ (by omega)
 have z3:A.cmp .lss 64 9223372036854775808=true:=bH A hA _ _ (by omega)
 have i1:AnI (aY S) (Di V S p) 0:=cH (Int.natCast_nonneg _)
 cbv
 repeat' with_reducible first | (intro hb;cbv) | refine UM ?_ ?_
 all_goals first | exact z0 | exact z1 | exact z2 | exact z3 | skip
 refine hL _ _ _ (aQ (un:=⟨false,some [0,1,2,3,4,5,6,8,9,10,11,12,13,15,16,17,24,25,26,57,62,63,64,65,89]⟩) tok Me aL (fun k:Nat=>⟨[(25,⟨[], .c (.s (.lit .i64 k))⟩),(24,⟨[], .c (.g [.P ⟨p.X,p.Y⟩])⟩),(6,⟨[], .c (.s (.hp 6 0))⟩),(5,⟨[], .c (.s (.hp 5 0))⟩),(4,⟨[], .c (.s (.tt false))⟩),(3,⟨[], .c (.s (.hp 4 0))⟩),(2,⟨[], .c (.s (.hp 3 0))⟩)],[(6, .fix true [.P (H.at_ 64 0)]),(5, .fix true [.P (H.at_ 0 0)]),(4, .fix true [.P p]),(3, .fix true [.s (.hs 0), .s (.hs 1), .s (.hs 2)]),(0, .vec false .i3 V),(1, .vec false .i3 S),(2, .vec false .pt l)],7⟩)
  (fun k=>HlI p k) (fun k=>2 - k) 0 ⟨by omega,fun h=>absurd h (by omega),fun h=>absurd h (by omega)⟩ ?_ (fun _ i hi=>by have:=hWr i hi;simp at this;show i < 7;omega) ?_)
 ·exact⟨⟨⟨rfl,rfl,fun _=>rfl⟩,⟨rfl,rfl,fun _=>rfl⟩,⟨rfl,rfl,fun _=>rfl⟩,⟨rfl,rfl,fun _=>rfl⟩,⟨rfl,rfl,fun _=>rfl⟩,⟨rfl,rfl,fun _=>rfl⟩,⟨rfl,rfl,fun _=>rfl⟩,trivial⟩,⟨aF rfl,aF rfl,aF rfl,aF rfl,aF rfl,aF rfl,aF rfl,trivial⟩,rfl,rfl⟩
 rintro k0 hI A2 L2 k2 hA2 hL2 hnext hexit hret
 have hk2:=hI.k2
 rcases(show k0=0∨k0=1∨k0=2 by omega) with rfl | rfl | rfl
 ·clear hI
  rw[hA, ← hA2] at z0 z1 z2 z3
  have r:=(RL A2 hA2 U hU H hH p.X).r
  rw[← hA2, ← hU, ← hH, ← hJ]
  cbv
  repeat' first | ((with_reducible intro hb);cbv) | with_reducible refine And.intro ?_ ?_
  ·rw[r] at hb
   apply hret
   clear hexit hnext hret
   cbv
   refine hk _ _ (bW.pure rfl rfl fun ρ=>dT ?_)
   have e:=f.x hb
   subst hU
   exact e
  ·rw[r] at hb
   refine hnext _ 1 ?_ (by omega) ?_
   ·exact⟨by omega,fun _=>(by subst hU;exact hb),fun h=>absurd h (by omega)⟩
   ·exact⟨⟨⟨rfl,rfl,fun _=>rfl⟩,⟨rfl,rfl,fun _=>rfl⟩,⟨rfl,rfl,fun _=>rfl⟩,⟨rfl,rfl,fun _=>rfl⟩,⟨rfl,rfl,fun _=>rfl⟩,⟨rfl,rfl,fun _=>rfl⟩,⟨rfl,rfl,fun _=>rfl⟩,trivial⟩,⟨aF rfl,aF rfl,aF rfl,aF rfl,aF rfl,aF rfl,aF rfl,trivial⟩,rfl,rfl⟩
 ·rw[hA, ← hA2] at z0 z1 z2 z3
  have r:=(RL A2 hA2 U hU H hH p.Y).r
  rw[← hA2, ← hU, ← hH, ← hJ]
  cbv
  repeat' first | ((with_reducible intro hb);cbv) | with_reducible refine And.intro ?_ ?_
  ·rw[r] at hb
   apply hret
   clear hexit hnext hret
   cbv
   refine hk _ _ (bW.pure rfl rfl fun ρ=>dT ?_)
   have e:=f.y hb
   subst hU
   exact e
  ·rw[r] at hb
   refine hnext _ 2 ?_ (by omega) ?_
   ·exact⟨by omega,fun _=>hI.x (by omega),fun _=>(by subst hU;exact hb)⟩
   ·exact⟨⟨⟨rfl,rfl,fun _=>rfl⟩,⟨rfl,rfl,fun _=>rfl⟩,⟨rfl,rfl,fun _=>rfl⟩,⟨rfl,rfl,fun _=>rfl⟩,⟨rfl,rfl,fun _=>rfl⟩,⟨rfl,rfl,fun _=>rfl⟩,⟨rfl,rfl,fun _=>rfl⟩,trivial⟩,⟨aF rfl,aF rfl,aF rfl,aF rfl,aF rfl,aF rfl,aF rfl,trivial⟩,rfl,rfl⟩
 have hx:=hI.x (by omega)
 have hy:=hI.y (by omega)
 clear hI
 rw[← hA2, ← hU, ← hH, ← hJ]
 cbv
 apply hexit
 clear hexit hnext hret
 cbv
 refine hL _ _ _ (aQ (un:=⟨false,some [0,1,2,3,4,5,6,8,9,10,11,12,13,15,16,17,24,25,26,57,62,63,64,65,89]⟩) tok Me aL (fun k:Int=>⟨[(64,⟨[], .c (.s (.int .i64 k))⟩),(63,⟨[], .c (.s (.int .i64 (A.len S)))⟩),(62,⟨[], .c (.s (.hs 1))⟩),(4,⟨[], .c (.s (.tt false))⟩),(3,⟨[], .c (.s (.hp 4 0))⟩),(2,⟨[], .c (.s (.hp 3 0))⟩)],[(6, .fix true [.P (H.at_ 64 0)]),(5, .fix true [.P (H.at_ 0 0)]),(4, .fix true [.P p]),(3, .fix true [.s (.hs 0), .s (.hs 1), .s (.hs 2)]),(0, .vec false .i3 V),(1, .vec false .i3 S),(2, .vec false .pt l)],7⟩)
  (fun k=>AnI (aY S) (Di V S p) k) (fun k=>(aY S - k).toNat) 0 i1 ?_ (fun _ i hi=>by have:=hWr i hi;simp at this;show i < 7;omega) ?_)
 ·exact⟨⟨⟨rfl,rfl,fun _=>rfl⟩,⟨rfl,rfl,fun _=>rfl⟩,⟨rfl,rfl,fun _=>rfl⟩,⟨rfl,rfl,fun _=>rfl⟩,⟨rfl,rfl,fun _=>rfl⟩,⟨rfl,rfl,fun _=>rfl⟩,trivial⟩,⟨aF rfl,aF rfl,aF rfl,aF rfl,aF rfl,aF rfl,aF rfl,trivial⟩,rfl,rfl⟩
 clear i1
 rintro k hI A3 L3 k3 hA3 hL3 hnext hexit hret
 have hls2:=hls
 rw[hA, ← hA3] at hls2
 have st:=fun hb:A3.cmp .lss k (A3.len S)=true=>c9 hI (by omega) A3 hA3 (by rw[← hls2];exact hb)
 have en:=fun hb:A3.cmp .lss k (A3.len S)=false=>eK hI A3 hA3 (by rw[← hls2];exact hb)
 have hh:A3.ite (A3.ite (H.all [U.pt V (A3.get S k (0,0,0)).1,U.pt V (A3.get S k (0,0,0)).2.1,p]) (J.on (U.pt V (A3.get S k (0,0,0)).1) (U.pt V (A3.get S k (0,0,0)).2.1) p) false) true (A3.not (H.all [U.pt V (A3.get S k (0,0,0)).1,U.pt V (A3.get S k (0,0,0)).2.1,p]))=Di V S p k:=by
  subst hA3 hU hH hJ
  rw[gF,dR]
  show(bD.all [ptV V (cK S k).1,ptV V (cK S k).2.1,p]&&kM.on (ptV V (cK S k).1) (ptV V (cK S k).2.1) p|| !bD.all [ptV V (cK S k).1,ptV V (cK S k).2.1,p])=_
  unfold Di
  cases bD.all [ptV V (cK S k).1,ptV V (cK S k).2.1,p] <;> simp
 clear hI
 have hin3:U.inb V=true:=by rw[hU];exact hin
 rw[hA, ← hA3, ← hU, ← hH, ← hJ]
 cbv
 repeat' with_reducible first | (intro hb;cbv) | refine UM ?_ ?_
 all_goals first | exact(st hb).o1 | exact hb | exact hin3 | skip
 ·rename_i hb0
  rw[hh] at hb
  have e:=f.h ((st hb0).ht hb)
  apply hret
  clear hexit hnext hret st en
  cbv
  refine hk _ _ (bW.pure rfl rfl fun ρ=>dT ?_)
  subst hU
  exact e
 ·rename_i hb0
  rw[hh] at hb
  refine hnext _ (k+1) ((st hb0).nx hb) (st hb0).ms ?_
  have ead:=(st hb0).ad
  subst hA3 hA
  exact⟨⟨⟨rfl,rfl,leI ead⟩,⟨rfl,rfl,fun _=>rfl⟩,⟨rfl,rfl,fun _=>rfl⟩,⟨rfl,rfl,fun _=>rfl⟩,⟨rfl,rfl,fun _=>rfl⟩,⟨rfl,rfl,fun _=>rfl⟩,trivial⟩,⟨aF rfl,aF rfl,aF rfl,aF rfl,aF rfl,aF rfl,aF rfl,trivial⟩,rfl,rfl⟩
 have e:=f.r (by rw[hU];exact hx) (by rw[hU];exact hy) (en hb).no
 apply hexit
 clear hexit hnext hret st en
 cbv
 refine hk _ _ (bW.pure rfl rfl fun ρ=>dT ?_)
 subst hU
 exact e
def uB2 (A:Alg) (U:SU):List (Nat×bU):=(76,aR [.g [.s .i3, .s .i3, .s .pt], .a .v] A (CZ A U)) :: ([])
theorem Rl:COK Tryz.prog (aN (uB2 aA bN)):=aB GE (bC)
theorem GM:aJ Tryz.prog 75 (aR [.a .v, .a (.p [.s .i3, .s .i3, .s .pt])] aA (JI aA bN)):=by
 refine aW (un:=⟨false,some [0,1,2,3]⟩) tok Rl aL (fn:=Tryz.f75) ?_
 intro w Wr args bs r hg ho hWr A L k hA hL hk
 obtain⟨U,hU⟩:=exE bN
 try rw[← hU]
 try rw[← hA]
 unfold JI at hg
 split at hg <;> cases hg
 rename_i p V S l
 have o1:=(aG ho).1
 have o2:=(aG (aG ho).2).1
 clear ho
 rw[← hA] at o2
 rw[← hU] at o1
 cbv
 repeat' with_reducible first | (intro hb;cbv) | refine UM ?_ ?_
 all_goals first | exact o1 | exact o2 | skip
 refine hk _ _ (bW.pure rfl rfl fun ρ=>dB ?_)
 subst hU hA
 rfl
def uB3 (A:Alg) (U:SU):List (Nat×bU):=(75,aR [.a .v, .a (.p [.s .i3, .s .i3, .s .pt])] A (JI A U)) :: ([])
theorem Pi:COK Tryz.prog (aN (uB3 aA bN)):=aB GM (bC)
theorem GF:aJ Tryz.prog 112 (aR [.a (.s .pt), .a (.f [.p [.s .i3, .s .i3, .s .pt]])] aA (Jt aA bN)):=by
 refine aW (un:=⟨false,some [0,1,4,5,7,8,9,16]⟩) tok Pi aL (fn:=Tryz.f112) ?_
 intro w Wr args bs r hg ho hWr A L k hA hL hk
 obtain⟨U,hU⟩:=exE bN
 try rw[← hU]
 try rw[← hA]
 unfold Jt at hg
 split at hg <;> cases hg
 rename_i h V S l
 have o1:=(aG ho).1
 have o2:=(aG (aG ho).2).1
 rw[← hA] at o2
 rw[← hU] at o1
 have hlen:=(aG (aG (aG ho).2).2).1
 simp only[aA,aP,decide_eq_true_eq] at hlen
 have hlen:aY h < 4611686018427387904:=by unfold aY;omega
 clear ho
 have hln:A.len h=aY h:=by subst hA;rfl
 have hp: ∀ k,A.not (U.hole V S (A.get h k ⟨⟨⟨false,A.zD⟩,⟨false,A.zD⟩⟩,⟨⟨false,A.zD⟩,⟨false,A.zD⟩⟩⟩))= !qQ V S (pC h k):=fun k=>by subst hA hU;rfl
 have i0:AnI (aY h) (fun k=> !qQ V S (pC h k)) 0:=cH (Int.natCast_nonneg _)
 cbv
 refine hL _ _ _ (aQ (un:=⟨false,some [0,1,4,5,7,8,9,16]⟩) tok Pi aL (fun k:Int=>⟨[(8,⟨[], .c (.s (.int .i64 k))⟩),(7,⟨[], .c (.s (.int .i64 (A.len h)))⟩),(4,⟨[], .c (.s (.lit .i64 0))⟩),(1,⟨[], .c (.s (.fn 75 [(4,0)]))⟩),(0,⟨[], .c (.s (.hs 0))⟩)],[(0, .vec false .pt h),(1, .vec false .i3 V),(2, .vec false .i3 S),(3, .vec false .pt l),(4, .fix false [.s (.hs 1), .s (.hs 2), .s (.hs 3)])],5⟩)
  (fun k=>AnI (aY h) (fun k=> !qQ V S (pC h k)) k) (fun k=>(aY h - k).toNat) 0 i0 ?_ (fun _ i hi=>by have:=hWr i hi;simp at this;show i < 5;omega) ?_)
 ·exact⟨⟨⟨rfl,rfl,fun _=>rfl⟩,⟨rfl,rfl,fun _=>rfl⟩,⟨rfl,rfl,fun _=>rfl⟩,⟨rfl,rfl,fun _=>rfl⟩,⟨rfl,rfl,fun _=>rfl⟩,trivial⟩,⟨aF rfl,aF rfl,aF rfl,aF rfl,aF rfl,trivial⟩,rfl,rfl⟩
 clear i0
 rintro k hI A2 L2 k2 hA2 hL2 hnext hexit hret
 rw[hA, ← hA2] at hln hp o2
 have st:=fun hb:A2.cmp .lss k (A2.len h)=true=>c9 hI hlen A2 hA2 (by rw[← hln];exact hb)
 have en:=fun hb:A2.cmp .lss k (A2.len h)=false=>eK hI A2 hA2 (by rw[← hln];exact hb)
 clear hI
 rw[hA, ← hA2, ← hU]
 cbv
 repeat' with_reducible first | (intro hb;cbv) | refine UM ?_ ?_
 all_goals first | exact(st hb).o1 | exact hb | exact o1 | exact o2 | skip
 ·rename_i hb0
  rw[hp] at hb
  have e:=(st hb0).ix hb
  apply hret
  clear hexit hnext hret st en
  cbv
  refine hk _ _ (bW.pure rfl rfl fun ρ=>dI ?_)
  exact e.symm
 ·rename_i hb0
  rw[hp] at hb
  refine hnext _ (k+1) ((st hb0).nx hb) (st hb0).ms ?_
  have ead:=(st hb0).ad
  subst hA2 hA
  exact⟨⟨⟨rfl,rfl,leI ead⟩,⟨rfl,rfl,fun _=>rfl⟩,⟨rfl,rfl,fun _=>rfl⟩,⟨rfl,rfl,fun _=>rfl⟩,⟨rfl,rfl,fun _=>rfl⟩,trivial⟩,⟨aF rfl,aF rfl,aF rfl,aF rfl,aF rfl,trivial⟩,rfl,rfl⟩
 ·have e:=(en hb).ix
  apply hexit
  clear hexit hnext hret st en
  cbv
  refine hk _ _ (bW.pure rfl rfl fun ρ=>dL ?_)
  exact e.symm
def uB4 (A:Alg) (U:SU):List (Nat×bU):=(112,aR [.a (.s .pt), .a (.f [.p [.s .i3, .s .i3, .s .pt]])] A (Jt A U)) :: ([])
theorem Rm:COK Tryz.prog (aN (uB4 aA bN)):=aB GF (bC)
theorem Gz:aJ Tryz.prog 74 (aR [.a (.s .pt), .a (.f [.p [.s .i3, .s .i3, .s .pt]])] aA (FC aA bN)):=by
 refine aW (un:=⟨false,some [0,1,4]⟩) tok Rm aL (fn:=Tryz.f74) ?_
 intro w Wr args bs r hg ho hWr A L k hA hL hk
 obtain⟨U,hU⟩:=exE bN
 try rw[← hU]
 try rw[← hA]
 unfold FC at hg
 split at hg <;> cases hg
 rename_i h V S l
 have o1:=(aG ho).1
 have o2:=(aG (aG ho).2).1
 have o3:=(aG (aG (aG ho).2).2).1
 rw[← hA] at o2 o3
 rw[← hU] at o1
 clear ho
 have e:A.cmp .geq (U.idxH V S h) 0=U.anyH V S h:=by subst hA hU;exact uM (aY h) fun k=> !qQ V S (pC h k)
 cbv
 repeat' with_reducible first | (intro hb;cbv) | refine UM ?_ ?_
 all_goals first | exact o1 | exact o2 | exact o3 | skip
 refine hk _ _ (bW.pure rfl rfl fun ρ=>dB ?_)
 subst hU
 exact e
end Go.Eng
