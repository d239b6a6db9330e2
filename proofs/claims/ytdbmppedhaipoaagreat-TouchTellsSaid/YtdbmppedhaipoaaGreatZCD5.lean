
import Derived.Test.YtdbmppedhaipoaaGreatZCD2
import Derived.Test.YtdbmppedhaipoaaGreatZCD3
set_option linter.all false
set_option exponentiation.threshold 3000
set_option maxRecDepth 100000
set_option maxHeartbeats 2000000
namespace Go.Eng
open Go.Proofs
def xT (A:Alg) (U:SU):List CV→List Blk→Option LW
 | [.g [.s (.hs 0), .s (.hs 1), .s (.hs 2)]],[.vec false .i3 V, .vec false .i3 S, .vec false .pt l]=>some ⟨[A.cmp .lss (A.len V) 1000000], .c (.s (.bool (U.bound V))),[],[]⟩
 | _,_=>none
def Db (A:Alg) (U:SU):List CV→List Blk→Option LW
 | [.g [.s (.hs 0), .s (.hs 1), .s (.hs 2)]],[.vec false .i3 V, .vec false .i3 S, .vec false .pt l]=>some ⟨[A.cmp .lss (A.len V) 1000000], .c (.s (.bool (U.twin V))),[],[]⟩
 | _,_=>none
def qM (A:Alg) (U:SU):List CV→List Blk→Option LW
 | [.g [.s (.hs 0), .s (.hs 1), .s (.hs 2)]],[.vec false .i3 V, .vec false .i3 S, .vec false .pt l]=>some ⟨[A.cmp .lss (A.len S) 1000000], .c (.s (.bool (U.crossed V S))),[],[]⟩
 | _,_=>none
def uA0 (A:Alg) (U:SU):List (Nat×bU):=(107,aR [.a (.s .i3), .a (.f [.p [.f []]])] A (Jk A U)) :: ([])
theorem Rj:COK Tryz.prog (aN (uA0 aA bN)):=aB GC (bC)
theorem DX:aJ Tryz.prog 70 (aR [.g [.s .i3, .s .i3, .s .pt]] aA (xT aA bN)):=by
 refine aW (un:=⟨false,some [0,1,2,3]⟩) tok Rj aL (fn:=Tryz.f70) ?_
 intro w Wr args bs r hg ho hWr A L k hA hL hk
 obtain⟨U,hU⟩:=exE bN
 try rw[← hU]
 try rw[← hA]
 unfold xT at hg
 split at hg <;> cases hg
 rename_i V S l
 have o1:=(aG ho).1
 rw[← hA] at o1
 clear ho
 have e:A.not (U.anyV V)=U.bound V:=by subst hA hU;rfl
 cbv
 repeat' with_reducible first | (intro hb;cbv) | refine UM ?_ ?_
 ·exact o1
 refine hk _ _ (bW.pure rfl rfl fun ρ=>dB ?_)
 subst hU
 exact e
def uA1 (A:Alg) (U:SU):List (Nat×bU):=(96,aR [.g [.s .i3, .s .i3, .s .pt], .a .v] A (Mk U)) :: ([])
theorem Mb:COK Tryz.prog (aN (uA1 aA bN)):=aB Ae (bC)
theorem GP:aJ Tryz.prog 71 (aR [.g [.s .i3, .s .i3, .s .pt]] aA (Db aA bN)):=by
 refine aW (un:=⟨false,some [0,1,2,3,4,9,10,11,13,14,15,25]⟩) tok Mb aL (fn:=Tryz.f71) ?_
 intro w Wr args bs r hg ho hWr A L k hA hL hk
 obtain⟨U,hU⟩:=exE bN
 try rw[← hU]
 try rw[← hA]
 unfold Db at hg
 split at hg <;> cases hg
 rename_i V S l
 have hlen:=(aG ho).1
 simp only[aA,aP,decide_eq_true_eq] at hlen
 have hlen:aY V < 1000000:=by unfold aY;omega
 clear ho
 have hlv:A.len V=aY V:=by subst hA;rfl
 have hp: ∀ i j,A.and (A.cmp .eql (U.ax V i) (U.ax V j)) (A.cmp .eql (U.ay V i) (U.ay V j))=vE V i j:=fun i j=>by subst hA hU;rw[fG,fG];rfl
 have i0:AnI (aY V) (fun i=>cY i fun j=>vE V i j) 0:=cH (Int.natCast_nonneg _)
 have er:cY (aY V) (fun i=>cY i fun j=>vE V i j)=U.twin V:=by subst hU;rfl
 cbv
 refine hL _ _ _ (aQ (un:=⟨false,some [0,1,2,3,4,9,10,11,13,14,15,25]⟩) tok Mb aL (fun k:Int=>⟨[(10,⟨[], .c (.s (.int .i64 k))⟩),(9,⟨[], .c (.s (.int .i64 (A.len V)))⟩),(2,⟨[], .c (.s (.tt false))⟩),(1,⟨[], .c (.s (.hp 3 0))⟩)],[(3, .fix true [.s (.hs 0), .s (.hs 1), .s (.hs 2)]),(0, .vec false .i3 V),(1, .vec false .i3 S),(2, .vec false .pt l)],4⟩)
  (fun k=>AnI (aY V) (fun i=>cY i fun j=>vE V i j) k) (fun k=>(aY V - k).toNat) 0 i0 ?_ (fun _ i hi=>by have:=hWr i hi;simp at this;show i < 4;omega) ?_)
 ·exact⟨⟨⟨rfl,rfl,fun _=>rfl⟩,⟨rfl,rfl,fun _=>rfl⟩,⟨rfl,rfl,fun _=>rfl⟩,⟨rfl,rfl,fun _=>rfl⟩,trivial⟩,⟨aF rfl,aF rfl,aF rfl,aF rfl,trivial⟩,rfl,rfl⟩
 clear i0
 rintro i hI A2 L2 k2 hA2 hL2 hnext hexit hret
 rw[hA, ← hA2] at hlv hp
 have st:=fun hb:A2.cmp .lss i (A2.len V)=true=>c9 hI (by omega) A2 hA2 (by rw[← hlv];exact hb)
 have en:=fun hb:A2.cmp .lss i (A2.len V)=false=>eK hI A2 hA2 (by rw[← hlv];exact hb)
 have hi1:=hI.k1
 have j0:AnI i (fun j=>vE V i j) 0:=cH hI.k0
 clear hI
 rw[hA, ← hA2, ← hU]
 cbv
 repeat' with_reducible first | (intro hb;cbv) | refine UM ?_ ?_
 ·have st:=st hb
  clear en hb
  refine hL2 _ _ _ (aQ (un:=⟨false,some [0,1,2,3,4,9,10,11,13,14,15,25]⟩) tok Mb aL (fun j:Int=>⟨[(14,⟨[], .c (.s (.int .i64 j))⟩),(13,⟨[], .c (.s (.int .i64 i))⟩),(3,⟨[], .c (.s (.int .i64 i))⟩),(10,⟨[], .c (.s (.int .i64 i))⟩),(9,⟨[], .c (.s (.int .i64 (A2.len V)))⟩),(2,⟨[], .c (.s (.tt false))⟩),(1,⟨[], .c (.s (.hp 3 0))⟩)],[(3, .fix true [.s (.hs 0), .s (.hs 1), .s (.hs 2)]),(0, .vec false .i3 V),(1, .vec false .i3 S),(2, .vec false .pt l)],4⟩)
   (fun j=>AnI i (fun j=>vE V i j) j) (fun j=>(i - j).toNat) 0 j0 ?_ (fun _ i hi=>by have:=hWr i hi;simp at this;show i < 4;omega) ?_)
  ·exact⟨⟨⟨rfl,rfl,fun _=>rfl⟩,⟨rfl,rfl,fun _=>rfl⟩,⟨rfl,rfl,fun _=>rfl⟩,⟨rfl,rfl,fun _=>rfl⟩,⟨rfl,rfl,fun _=>rfl⟩,⟨rfl,rfl,fun _=>rfl⟩,⟨rfl,rfl,fun _=>rfl⟩,trivial⟩,⟨aF rfl,aF rfl,aF rfl,aF rfl,trivial⟩,rfl,rfl⟩
  clear j0
  rintro j hJ A3 L3 k3 hA3 hL3 hnext3 hexit3 hret3
  rw[hA2, ← hA3] at hp
  have st3:=fun hb:A3.cmp .lss j i=true=>c9 hJ (by omega) A3 hA3 hb
  have en3:=fun hb:A3.cmp .lss j i=false=>eK hJ A3 hA3 hb
  clear hJ
  rw[hA2, ← hA3, ← hU]
  cbv
  repeat' with_reducible first | (intro hb;cbv) | refine UM ?_ ?_
  ·rename_i hb0
   rw[hp] at hb
   have e:=st.ht ((st3 hb0).ht hb)
   apply hret3
   clear hexit3 hnext3 hret3 st3 en3
   cbv
   apply hret
   clear hexit hnext hret st
   cbv
   refine hk _ _ (bW.pure rfl rfl fun ρ=>dT ?_)
   rw[e] at er
   subst hU
   exact er
  ·rename_i hb0
   rw[hp] at hb
   refine hnext3 _ (j+1) ((st3 hb0).nx hb) (st3 hb0).ms ?_
   have ead:=(st3 hb0).ad
   subst hA3 hA2 hA
   exact⟨⟨⟨rfl,rfl,leI ead⟩,⟨rfl,rfl,fun _=>rfl⟩,⟨rfl,rfl,fun _=>rfl⟩,⟨rfl,rfl,fun _=>rfl⟩,⟨rfl,rfl,fun _=>rfl⟩,⟨rfl,rfl,fun _=>rfl⟩,⟨rfl,rfl,fun _=>rfl⟩,trivial⟩,⟨aF rfl,aF rfl,aF rfl,aF rfl,trivial⟩,rfl,rfl⟩
  ·have ev:=(en3 hb).no
   apply hexit3
   clear hexit3 hnext3 hret3 st3 en3
   cbv
   refine hnext _ (i+1) (st.nx ev) st.ms ?_
   have ead:=st.ad
   subst hA3 hA2 hA
   exact⟨⟨⟨rfl,rfl,leI ead⟩,⟨rfl,rfl,fun _=>rfl⟩,⟨rfl,rfl,fun _=>rfl⟩,⟨rfl,rfl,fun _=>rfl⟩,trivial⟩,⟨aF rfl,aF rfl,aF rfl,aF rfl,trivial⟩,rfl,rfl⟩
 ·have e:=(en hb).no
  apply hexit
  clear hexit hnext hret st en
  cbv
  refine hk _ _ (bW.pure rfl rfl fun ρ=>dT ?_)
  rw[e] at er
  subst hU
  exact er
def uA2 (A:Alg) (U:SU):List (Nat×bU):=(111,aR [.g [.s .i3, .s .i3, .s .pt], .a .v, .a .v] A (xY A U)) :: ([])
theorem Mc:COK Tryz.prog (aN (uA2 aA bN)):=aB DY (bC)
theorem yL:aJ Tryz.prog 73 (aR [.g [.s .i3, .s .i3, .s .pt]] aA (qM aA bN)):=by
 refine aW (un:=⟨false,some [0,1,2,3,4,9,10,11,13,14,15,20]⟩) tok Mc aL (fn:=Tryz.f73) ?_
 intro w Wr args bs r hg ho hWr A L k hA hL hk
 obtain⟨U,hU⟩:=exE bN
 try rw[← hU]
 try rw[← hA]
 unfold qM at hg
 split at hg <;> cases hg
 rename_i V S l
 have hlen:=(aG ho).1
 simp only[aA,aP,decide_eq_true_eq] at hlen
 have hlen:aY S < 1000000:=by unfold aY;omega
 clear ho
 have hlv:A.len S=aY S:=by subst hA;rfl
 have hp: ∀ i j,U.cross V S i j=j4 V S i j:=fun i j=>by subst hU;rfl
 have i0:AnI (aY S) (fun i=>cY i fun j=>j4 V S i j) 0:=cH (Int.natCast_nonneg _)
 have er:cY (aY S) (fun i=>cY i fun j=>j4 V S i j)=U.crossed V S:=by subst hU;rfl
 cbv
 refine hL _ _ _ (aQ (un:=⟨false,some [0,1,2,3,4,9,10,11,13,14,15,20]⟩) tok Mc aL (fun k:Int=>⟨[(10,⟨[], .c (.s (.int .i64 k))⟩),(9,⟨[], .c (.s (.int .i64 (A.len S)))⟩),(2,⟨[], .c (.s (.tt false))⟩),(1,⟨[], .c (.s (.hp 3 0))⟩)],[(3, .fix true [.s (.hs 0), .s (.hs 1), .s (.hs 2)]),(0, .vec false .i3 V),(1, .vec false .i3 S),(2, .vec false .pt l)],4⟩)
  (fun k=>AnI (aY S) (fun i=>cY i fun j=>j4 V S i j) k) (fun k=>(aY S - k).toNat) 0 i0 ?_ (fun _ i hi=>by have:=hWr i hi;simp at this;show i < 4;omega) ?_)
 ·exact⟨⟨⟨rfl,rfl,fun _=>rfl⟩,⟨rfl,rfl,fun _=>rfl⟩,⟨rfl,rfl,fun _=>rfl⟩,⟨rfl,rfl,fun _=>rfl⟩,trivial⟩,⟨aF rfl,aF rfl,aF rfl,aF rfl,trivial⟩,rfl,rfl⟩
 clear i0
 rintro i hI A2 L2 k2 hA2 hL2 hnext hexit hret
 rw[hA, ← hA2] at hlv
 have st:=fun hb:A2.cmp .lss i (A2.len S)=true=>c9 hI (by omega) A2 hA2 (by rw[← hlv];exact hb)
 have en:=fun hb:A2.cmp .lss i (A2.len S)=false=>eK hI A2 hA2 (by rw[← hlv];exact hb)
 have hi1:=hI.k1
 have j0:AnI i (fun j=>j4 V S i j) 0:=cH hI.k0
 clear hI
 rw[hA, ← hA2, ← hU]
 cbv
 repeat' with_reducible first | (intro hb;cbv) | refine UM ?_ ?_
 ·have hbi:=hb
  have st:=st hb
  clear en hb
  refine hL2 _ _ _ (aQ (un:=⟨false,some [0,1,2,3,4,9,10,11,13,14,15,20]⟩) tok Mc aL (fun j:Int=>⟨[(14,⟨[], .c (.s (.int .i64 j))⟩),(13,⟨[], .c (.s (.int .i64 i))⟩),(3,⟨[], .c (.s (.int .i64 i))⟩),(10,⟨[], .c (.s (.int .i64 i))⟩),(9,⟨[], .c (.s (.int .i64 (A2.len S)))⟩),(2,⟨[], .c (.s (.tt false))⟩),(1,⟨[], .c (.s (.hp 3 0))⟩)],[(3, .fix true [.s (.hs 0), .s (.hs 1), .s (.hs 2)]),(0, .vec false .i3 V),(1, .vec false .i3 S),(2, .vec false .pt l)],4⟩)
   (fun j=>AnI i (fun j=>j4 V S i j) j) (fun j=>(i - j).toNat) 0 j0 ?_ (fun _ i hi=>by have:=hWr i hi;simp at this;show i < 4;omega) ?_)
  ·exact⟨⟨⟨rfl,rfl,fun _=>rfl⟩,⟨rfl,rfl,fun _=>rfl⟩,⟨rfl,rfl,fun _=>rfl⟩,⟨rfl,rfl,fun _=>rfl⟩,⟨rfl,rfl,fun _=>rfl⟩,⟨rfl,rfl,fun _=>rfl⟩,⟨rfl,rfl,fun _=>rfl⟩,trivial⟩,⟨aF rfl,aF rfl,aF rfl,aF rfl,trivial⟩,rfl,rfl⟩
  clear j0
  rintro j hJ A3 L3 k3 hA3 hL3 hnext3 hexit3 hret3
  have st3:=fun hb:A3.cmp .lss j i=true=>c9 hJ (by omega) A3 hA3 hb
  have en3:=fun hb:A3.cmp .lss j i=false=>eK hJ A3 hA3 hb
  have hbj:A3.cmp .lss j i=true→A3.cmp .lss j (A3.len S)=true:=fun hb=>by
   subst hA3 hA2
   have h1:i < aY S:=of_decide_eq_true hbi
   have h2:j < i:=of_decide_eq_true hb
   exact bH _ rfl _ _ (by show j < aY S;omega)
  have oi:A3.cmp .leq 0 i=true:=by rw[hA3, ← hA2];exact st.o1
  have hbi3:A3.cmp .lss i (A3.len S)=true:=by rw[hA3, ← hA2];exact hbi
  clear hJ
  rw[hA2, ← hA3, ← hU]
  cbv
  repeat' with_reducible first | (intro hb;cbv) | refine UM ?_ ?_
  all_goals first | exact oi | exact hbi3 | exact(st3 hb).o1 | exact hbj hb | skip
  ·rename_i hb0
   rw[hp] at hb
   have e:=st.ht ((st3 hb0).ht hb)
   apply hret3
   clear hexit3 hnext3 hret3 st3 en3
   cbv
   apply hret
   clear hexit hnext hret st
   cbv
   refine hk _ _ (bW.pure rfl rfl fun ρ=>dT ?_)
   rw[e] at er
   subst hU
   exact er
  ·rename_i hb0
   rw[hp] at hb
   refine hnext3 _ (j+1) ((st3 hb0).nx hb) (st3 hb0).ms ?_
   have ead:=(st3 hb0).ad
   subst hA3 hA2 hA
   exact⟨⟨⟨rfl,rfl,leI ead⟩,⟨rfl,rfl,fun _=>rfl⟩,⟨rfl,rfl,fun _=>rfl⟩,⟨rfl,rfl,fun _=>rfl⟩,⟨rfl,rfl,fun _=>rfl⟩,⟨rfl,rfl,fun _=>rfl⟩,⟨rfl,rfl,fun _=>rfl⟩,trivial⟩,⟨aF rfl,aF rfl,aF rfl,aF rfl,trivial⟩,rfl,rfl⟩
  ·have ev:=(en3 hb).no
   apply hexit3
   clear hexit3 hnext3 hret3 st3 en3
   cbv
   refine hnext _ (i+1) (st.nx ev) st.ms ?_
   have ead:=st.ad
   subst hA3 hA2 hA
   exact⟨⟨⟨rfl,rfl,leI ead⟩,⟨rfl,rfl,fun _=>rfl⟩,⟨rfl,rfl,fun _=>rfl⟩,⟨rfl,rfl,fun _=>rfl⟩,trivial⟩,⟨aF rfl,aF rfl,aF rfl,aF rfl,trivial⟩,rfl,rfl⟩
 ·have e:=(en hb).no
  apply hexit
  clear hexit hnext hret st en
  cbv
  refine hk _ _ (bW.pure rfl rfl fun ρ=>dT ?_)
  rw[e] at er
  subst hU
  exact er
end Go.Eng
