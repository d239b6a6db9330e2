
import Derived.Test.YtdbmppedhaipoaaGreatZCD1
import Derived.Test.YtdbmppedhaipoaaGreatZCRB
set_option linter.all false
set_option exponentiation.threshold 3000
set_option maxRecDepth 100000
set_option maxHeartbeats 2000000
namespace Go.Eng
open Go.Proofs
def JJ (A:Alg) (H:SH):List CV→List Blk→Option LR
 | [.g [.P p]],[]=>some ⟨[], .c (.s (.bool (A.not (H.all [p])))),[]⟩
 | _,_=>none
def JC (A:Alg):List CV→List Blk→Option LR
 | [.s (.int .i64 n)],[]=>some ⟨[], .c (.s (.bool (A.ite (A.cmp .geq n 0) (A.cmp .leq n 1000000) false))),[]⟩
 | _,_=>none
def gIn (A:Alg) (U:SU):List CV→List Blk→Option LR
 | [.s (.int .i64 n)],[]=>some ⟨[], .c (.s (.bool (A.not (U.outI n)))),[]⟩
 | _,_=>none
def P1 (A:Alg):List CV→List Blk→Option LR
 | [.s (.int .i64 n)],[]=>some ⟨[], .c (.s (.bool (A.cmp .neq n 2))),[]⟩
 | _,_=>none
def JK (U:SU):List CV→List Blk→Option LW
 | [.g [.s (.int .i64 a), .s (.int .i64 b), .s (.int .i64 c)], .s (.hp 0 0)],[.fix false [.s (.fn 106 [])]]=>some ⟨[], .c (.s (.bool (U.out (a,b,c)))),[],[]⟩
 | _,_=>none
def uE0 (A:Alg) (H:SH):List (Nat×bU):=(82,aC [.v] A (C1 H)) :: ([])
theorem Hz:COK Tryz.prog (aN (uE0 aA bD)):=aB DQ (bC)
theorem GN:aJ Tryz.prog 105 (aC [.v] aA (JJ aA bD)):=by
 refine aH (un:=⟨false,some [0,1,2]⟩) tok Hz aL (fn:=Tryz.f105) ?_
 intro w Wr args bs r hg ho hWr A L k hA hL hk
 obtain⟨H,hH⟩:=exE bD
 try rw[← hH]
 try rw[← hA]
 unfold JJ at hg
 split at hg <;> cases hg
 cbv
 refine hk _ _ (bE.pure rfl fun ρ=>dB ?_)
 subst hA hH
 rfl
theorem GL:aJ Tryz.prog 103 (aC [.v] aA (JC aA)):=by
 refine aH (un:=⟨false,some [0,2]⟩) tok Hz aL (fn:=Tryz.f103) ?_
 intro w Wr args bs r hg ho hWr A L k hA hL hk
 obtain⟨H,hH⟩:=exE bD
 try rw[← hH]
 try rw[← hA]
 unfold JC at hg
 split at hg <;> cases hg
 cbv
 refine hk _ _ (bE.pure rfl fun ρ=>dB ?_)
 subst hA
 rfl
theorem N9:aJ Tryz.prog 106 (aC [.v] aA (gIn aA bN)):=by
 refine aH (un:=⟨false,some [0,2]⟩) tok Hz aL (fn:=Tryz.f106) ?_
 intro w Wr args bs r hg ho hWr A L k hA hL hk
 obtain⟨H,hH⟩:=exE bD
 obtain⟨U,hU⟩:=exE bN
 try rw[← hH]
 try rw[← hU]
 try rw[← hA]
 unfold gIn at hg
 split at hg <;> cases hg
 rename_i n
 have e:A.ite (A.cmp .geq n 0) (A.cmp .leq n 64) false=A.not (U.outI n):=by
  subst hA hU
  rw[gF]
  show _= !!(decide (0≤n)&&decide (n≤64))
  rw[Bool.not_not];rfl
 cbv
 refine hk _ _ (bE.pure rfl fun ρ=>dB ?_)
 subst hA hU
 exact e
theorem KX:aJ Tryz.prog 110 (aC [.v] aA (P1 aA)):=by
 refine aH (un:=⟨false,some [0,2]⟩) tok Hz aL (fn:=Tryz.f110) ?_
 intro w Wr args bs r hg ho hWr A L k hA hL hk
 obtain⟨H,hH⟩:=exE bD
 try rw[← hH]
 try rw[← hA]
 unfold P1 at hg
 split at hg <;> cases hg
 cbv
 refine hk _ _ (bE.pure rfl fun ρ=>dB ?_)
 subst hA
 rfl
def uE1 (A:Alg) (U:SU):List (Nat×bU):=(106,aC [.v] A (gIn A U)) :: ([])
theorem Rs:COK Tryz.prog (aN (uE1 aA bN)):=aB N9 (bC)
theorem GO:aJ Tryz.prog 108 (aR [.a .v, .a (.p [.f []])] aA (JK bN)):=by
 refine aW (un:=⟨false,some [0,1,2,3]⟩) tok Rs aL (fn:=Tryz.f108) ?_
 intro w Wr args bs r hg ho hWr A L k hA hL hk
 obtain⟨U,hU⟩:=exE bN
 try rw[← hU]
 try rw[← hA]
 unfold JK at hg
 split at hg <;> cases hg
 rename_i a b c
 have e:A.ite (A.not (A.not (U.outI a))) true (A.not (A.not (U.outI b)))=U.out (a,b,c):=by
  subst hA hU
  rw[dR]
  show(!!bN.outI a|| !!bN.outI b)=_
  rw[Bool.not_not,Bool.not_not];rfl
 cbv
 refine hk _ _ (bW.pure rfl rfl fun ρ=>dB ?_)
 subst hU
 exact e
def Jv (A:Alg) (U:SU):List CV→List Blk→Option LW
 | [.s (.hs 0), .s (.fn 105 [])],[.vec false .pt l]=>some ⟨[A.cmp .lss (A.len l) 1000000], .c (.s (.int .i64 (U.idxP l))),[],[]⟩
 | _,_=>none
def CP (A:Alg) (U:SU):List CV→List Blk→Option LW
 | [.s (.hs 0), .s (.fn 105 [])],[.vec false .pt l]=>some ⟨[A.cmp .lss (A.len l) 1000000], .c (.s (.bool (U.anyP l))),[],[]⟩
 | _,_=>none
def Jw (A:Alg) (U:SU):List CV→List Blk→Option LW
 | [.s (.hs 0), .s (.fn 108 [(1,0)])],[.vec false .i3 l, .fix false [.s (.fn 106 [])]]=>some ⟨[A.cmp .lss (A.len l) 1000000], .c (.s (.int .i64 (U.idxV l))),[],[]⟩
 | _,_=>none
def Jk (A:Alg) (U:SU):List CV→List Blk→Option LW
 | [.s (.hs 0), .s (.fn 108 [(1,0)])],[.vec false .i3 l, .fix false [.s (.fn 106 [])]]=>some ⟨[A.cmp .lss (A.len l) 1000000], .c (.s (.bool (U.anyV l))),[],[]⟩
 | _,_=>none
def Ju (A:Alg) (U:SU):List CV→List Blk→Option LW
 | [.s (.hs 0), .s (.fn 110 [])],[.vec false (.int .i64) l]=>some ⟨[A.cmp .lss (A.len l) 1000000], .c (.s (.int .i64 (U.idxI l))),[],[]⟩
 | _,_=>none
def Jj (A:Alg) (U:SU):List CV→List Blk→Option LW
 | [.s (.hs 0), .s (.fn 110 [])],[.vec false (.int .i64) l]=>some ⟨[A.cmp .lss (A.len l) 1000000], .c (.s (.bool (U.anyI l))),[],[]⟩
 | _,_=>none
def uE2 (A:Alg) (H:SH):List (Nat×bU):=(105,aC [.v] A (JJ A H)) :: ([])
theorem Pj:COK Tryz.prog (aN (uE2 aA bD)):=aB GN (bC)
theorem GH:aJ Tryz.prog 112 (aR [.a (.s .pt), .a (.f [])] aA (Jv aA bN)):=by
 refine aW (un:=⟨false,some [0,1,4,5,7,8,9,16]⟩) tok Pj aL (fn:=Tryz.f112) ?_
 intro w Wr args bs r hg ho hWr A L k hA hL hk
 obtain⟨H,hH⟩:=exE bD
 obtain⟨U,hU⟩:=exE bN
 try rw[← hH]
 try rw[← hU]
 try rw[← hA]
 unfold Jv at hg
 split at hg <;> cases hg
 rename_i l
 have hlen:=(aG ho).1
 simp only[aA,aP,decide_eq_true_eq] at hlen
 have hlen:aY l < 4611686018427387904:=by unfold aY;omega
 clear ho
 have hln:A.len l=aY l:=by subst hA;rfl
 have hp: ∀ k,A.not (H.all [A.get l k ⟨⟨⟨false,A.zD⟩,⟨false,A.zD⟩⟩,⟨⟨false,A.zD⟩,⟨false,A.zD⟩⟩⟩])= !dX [pC l k]:=fun k=>by subst hA hH;rfl
 have i0:AnI (aY l) (fun k=> !dX [pC l k]) 0:=cH (Int.natCast_nonneg _)
 cbv
 refine hL _ _ _ (aQ (un:=⟨false,some [0,1,4,5,7,8,9,16]⟩) tok Pj aL (fun k:Int=>⟨[(8,⟨[], .c (.s (.int .i64 k))⟩),(7,⟨[], .c (.s (.int .i64 (A.len l)))⟩),(4,⟨[], .c (.s (.lit .i64 0))⟩),(1,⟨[], .c (.s (.fn 105 []))⟩),(0,⟨[], .c (.s (.hs 0))⟩)],[(0, .vec false .pt l)],1⟩)
  (fun k=>AnI (aY l) (fun k=> !dX [pC l k]) k) (fun k=>(aY l - k).toNat) 0 i0 ?_ (fun _ i hi=>by have:=hWr i hi;simp at this;show i < 1;omega) ?_)
 ·exact⟨⟨⟨rfl,rfl,fun _=>rfl⟩,⟨rfl,rfl,fun _=>rfl⟩,⟨rfl,rfl,fun _=>rfl⟩,⟨rfl,rfl,fun _=>rfl⟩,⟨rfl,rfl,fun _=>rfl⟩,trivial⟩,⟨aF rfl,trivial⟩,rfl,rfl⟩
 clear i0
 rintro k hI A2 L2 k2 hA2 hL2 hnext hexit hret
 rw[hA, ← hA2] at hln hp
 have st:=fun hb:A2.cmp .lss k (A2.len l)=true=>c9 hI hlen A2 hA2 (by rw[← hln];exact hb)
 have en:=fun hb:A2.cmp .lss k (A2.len l)=false=>eK hI A2 hA2 (by rw[← hln];exact hb)
 clear hI
 rw[hA, ← hA2, ← hH]
 cbv
 repeat' with_reducible first | (intro hb;cbv) | refine UM ?_ ?_
 all_goals first | exact(st hb).o1 | exact hb | skip
 ·rename_i hb0
  rw[hp] at hb
  have e:=(st hb0).ix hb
  apply hret
  clear hexit hnext hret st en
  cbv
  refine hk _ _ (bW.pure rfl rfl fun ρ=>dI ?_)
  exact e.symm
 ·rename_i hb0
  rw[hp] at hb
  refine hnext _ (k+1) ((st hb0).nx hb) (st hb0).ms ?_
  have ead:=(st hb0).ad
  subst hA2 hA
  exact⟨⟨⟨rfl,rfl,leI ead⟩,⟨rfl,rfl,fun _=>rfl⟩,⟨rfl,rfl,fun _=>rfl⟩,⟨rfl,rfl,fun _=>rfl⟩,⟨rfl,rfl,fun _=>rfl⟩,trivial⟩,⟨aF rfl,trivial⟩,rfl,rfl⟩
 ·have e:=(en hb).ix
  apply hexit
  clear hexit hnext hret st en
  cbv
  refine hk _ _ (bW.pure rfl rfl fun ρ=>dL ?_)
  exact e.symm
def uE3 (A:Alg) (U:SU):List (Nat×bU):=(112,aR [.a (.s .pt), .a (.f [])] A (Jv A U)) :: ([])
theorem Ru:COK Tryz.prog (aN (uE3 aA bN)):=aB GH (bC)
theorem Ad:aJ Tryz.prog 74 (aR [.a (.s .pt), .a (.f [])] aA (CP aA bN)):=by
 refine aW (un:=⟨false,some [0,1,4]⟩) tok Ru aL (fn:=Tryz.f74) ?_
 intro w Wr args bs r hg ho hWr A L k hA hL hk
 obtain⟨U,hU⟩:=exE bN
 try rw[← hU]
 try rw[← hA]
 unfold CP at hg
 split at hg <;> cases hg
 rename_i l
 have o1:=(aG ho).1
 rw[← hA] at o1
 clear ho
 have e:A.cmp .geq (U.idxP l) 0=U.anyP l:=by subst hA hU;exact uM (aY l) fun k=> !dX [pC l k]
 cbv
 repeat' with_reducible first | (intro hb;cbv) | refine UM ?_ ?_
 ·exact o1
 refine hk _ _ (bW.pure rfl rfl fun ρ=>dB ?_)
 subst hU
 exact e
def uE4 (A:Alg) (U:SU):List (Nat×bU):=(108,aR [.a .v, .a (.p [.f []])] A (JK U)) :: ([])
theorem Pk:COK Tryz.prog (aN (uE4 aA bN)):=aB GO (bC)
theorem GJ:aJ Tryz.prog 133 (aR [.a (.s .i3), .a (.f [.p [.f []]])] aA (Jw aA bN)):=by
 refine aW (un:=⟨false,some [0,1,4,5,7,8,9,16]⟩) tok Pk aL (fn:=Tryz.f133) ?_
 intro w Wr args bs r hg ho hWr A L k hA hL hk
 obtain⟨U,hU⟩:=exE bN
 try rw[← hU]
 try rw[← hA]
 unfold Jw at hg
 split at hg <;> cases hg
 rename_i l
 have hlen:=(aG ho).1
 simp only[aA,aP,decide_eq_true_eq] at hlen
 have hlen:aY l < 4611686018427387904:=by unfold aY;omega
 clear ho
 have hln:A.len l=aY l:=by subst hA;rfl
 have hp: ∀ k,U.out ((A.get l k (0,0,0)).1,(A.get l k (0,0,0)).2.1,(A.get l k (0,0,0)).2.2)=Fe (cK l k):=fun k=>by subst hA hU;rfl
 have i0:AnI (aY l) (fun k=>Fe (cK l k)) 0:=cH (Int.natCast_nonneg _)
 cbv
 refine hL _ _ _ (aQ (un:=⟨false,some [0,1,4,5,7,8,9,16]⟩) tok Pk aL (fun k:Int=>⟨[(8,⟨[], .c (.s (.int .i64 k))⟩),(7,⟨[], .c (.s (.int .i64 (A.len l)))⟩),(4,⟨[], .c (.s (.lit .i64 0))⟩),(1,⟨[], .c (.s (.fn 108 [(1,0)]))⟩),(0,⟨[], .c (.s (.hs 0))⟩)],[(1, .fix false [.s (.fn 106 [])]),(0, .vec false .i3 l)],2⟩)
  (fun k=>AnI (aY l) (fun k=>Fe (cK l k)) k) (fun k=>(aY l - k).toNat) 0 i0 ?_ (fun _ i hi=>by have:=hWr i hi;simp at this;show i < 2;omega) ?_)
 ·exact⟨⟨⟨rfl,rfl,fun _=>rfl⟩,⟨rfl,rfl,fun _=>rfl⟩,⟨rfl,rfl,fun _=>rfl⟩,⟨rfl,rfl,fun _=>rfl⟩,⟨rfl,rfl,fun _=>rfl⟩,trivial⟩,⟨aF rfl,aF rfl,trivial⟩,rfl,rfl⟩
 clear i0
 rintro k hI A2 L2 k2 hA2 hL2 hnext hexit hret
 rw[hA, ← hA2] at hln hp
 have st:=fun hb:A2.cmp .lss k (A2.len l)=true=>c9 hI hlen A2 hA2 (by rw[← hln];exact hb)
 have en:=fun hb:A2.cmp .lss k (A2.len l)=false=>eK hI A2 hA2 (by rw[← hln];exact hb)
 clear hI
 rw[hA, ← hA2, ← hU]
 cbv
 repeat' with_reducible first | (intro hb;cbv) | refine UM ?_ ?_
 all_goals first | exact(st hb).o1 | exact hb | skip
 ·rename_i hb0
  rw[hp] at hb
  have e:=(st hb0).ix hb
  apply hret
  clear hexit hnext hret st en
  cbv
  refine hk _ _ (bW.pure rfl rfl fun ρ=>dI ?_)
  exact e.symm
 ·rename_i hb0
  rw[hp] at hb
  refine hnext _ (k+1) ((st hb0).nx hb) (st hb0).ms ?_
  have ead:=(st hb0).ad
  subst hA2 hA
  exact⟨⟨⟨rfl,rfl,leI ead⟩,⟨rfl,rfl,fun _=>rfl⟩,⟨rfl,rfl,fun _=>rfl⟩,⟨rfl,rfl,fun _=>rfl⟩,⟨rfl,rfl,fun _=>rfl⟩,trivial⟩,⟨aF rfl,aF rfl,trivial⟩,rfl,rfl⟩
 ·have e:=(en hb).ix
  apply hexit
  clear hexit hnext hret st en
  cbv
  refine hk _ _ (bW.pure rfl rfl fun ρ=>dL ?_)
  exact e.symm
def uE5 (A:Alg) (U:SU):List (Nat×bU):=(133,aR [.a (.s .i3), .a (.f [.p [.f []]])] A (Jw A U)) :: ([])
theorem Rv:COK Tryz.prog (aN (uE5 aA bN)):=aB GJ (bC)
theorem GC:aJ Tryz.prog 107 (aR [.a (.s .i3), .a (.f [.p [.f []]])] aA (Jk aA bN)):=by
 refine aW (un:=⟨false,some [0,1,4]⟩) tok Rv aL (fn:=Tryz.f107) ?_
 intro w Wr args bs r hg ho hWr A L k hA hL hk
 obtain⟨U,hU⟩:=exE bN
 try rw[← hU]
 try rw[← hA]
 unfold Jk at hg
 split at hg <;> cases hg
 rename_i l
 have o1:=(aG ho).1
 rw[← hA] at o1
 clear ho
 have e:A.cmp .geq (U.idxV l) 0=U.anyV l:=by subst hA hU;exact uM (aY l) fun k=>Fe (cK l k)
 cbv
 repeat' with_reducible first | (intro hb;cbv) | refine UM ?_ ?_
 ·exact o1
 refine hk _ _ (bW.pure rfl rfl fun ρ=>dB ?_)
 subst hU
 exact e
theorem F3 (a b:Int):aA.cmp .neq a b=decide (a≠b):=by
 show(a != b)=decide (a≠b)
 by_cases h:a=b <;> simp[h]
def uE6 (A:Alg):List (Nat×bU):=(110,aC [.v] A (P1 A)) :: ([])
theorem Pm:COK Tryz.prog (aN (uE6 aA)):=aB KX (bC)
theorem GG:aJ Tryz.prog 134 (aR [.a (.s (.int .i64)), .a (.f [])] aA (Ju aA bN)):=by
 refine aW (un:=⟨false,some [0,1,4,5,7,8,9,16]⟩) tok Pm aL (fn:=Tryz.f134) ?_
 intro w Wr args bs r hg ho hWr A L k hA hL hk
 obtain⟨U,hU⟩:=exE bN
 try rw[← hU]
 try rw[← hA]
 unfold Ju at hg
 split at hg <;> cases hg
 rename_i l
 have hlen:=(aG ho).1
 simp only[aA,aP,decide_eq_true_eq] at hlen
 have hlen:aY l < 4611686018427387904:=by unfold aY;omega
 clear ho
 have hln:A.len l=aY l:=by subst hA;rfl
 have hp: ∀ k,A.cmp .neq (A.get l k 0) 2=decide (mU l k≠2):=fun k=>by subst hA;rw[F3];rfl
 have i0:AnI (aY l) (fun k=>decide (mU l k≠2)) 0:=cH (Int.natCast_nonneg _)
 cbv
 refine hL _ _ _ (aQ (un:=⟨false,some [0,1,4,5,7,8,9,16]⟩) tok Pm aL (fun k:Int=>⟨[(8,⟨[], .c (.s (.int .i64 k))⟩),(7,⟨[], .c (.s (.int .i64 (A.len l)))⟩),(4,⟨[], .c (.s (.lit .i64 0))⟩),(1,⟨[], .c (.s (.fn 110 []))⟩),(0,⟨[], .c (.s (.hs 0))⟩)],[(0, .vec false (.int .i64) l)],1⟩)
  (fun k=>AnI (aY l) (fun k=>decide (mU l k≠2)) k) (fun k=>(aY l - k).toNat) 0 i0 ?_ (fun _ i hi=>by have:=hWr i hi;simp at this;show i < 1;omega) ?_)
 ·exact⟨⟨⟨rfl,rfl,fun _=>rfl⟩,⟨rfl,rfl,fun _=>rfl⟩,⟨rfl,rfl,fun _=>rfl⟩,⟨rfl,rfl,fun _=>rfl⟩,⟨rfl,rfl,fun _=>rfl⟩,trivial⟩,⟨aF rfl,trivial⟩,rfl,rfl⟩
 clear i0
 rintro k hI A2 L2 k2 hA2 hL2 hnext hexit hret
 rw[hA, ← hA2] at hln hp
 have st:=fun hb:A2.cmp .lss k (A2.len l)=true=>c9 hI hlen A2 hA2 (by rw[← hln];exact hb)
 have en:=fun hb:A2.cmp .lss k (A2.len l)=false=>eK hI A2 hA2 (by rw[← hln];exact hb)
 clear hI
 rw[hA, ← hA2]
 cbv
 repeat' with_reducible first | (intro hb;cbv) | refine UM ?_ ?_
 all_goals first | exact(st hb).o1 | exact hb | skip
 ·rename_i hb0
  rw[hp] at hb
  have e:=(st hb0).ix hb
  apply hret
  clear hexit hnext hret st en
  cbv
  refine hk _ _ (bW.pure rfl rfl fun ρ=>dI ?_)
  exact e.symm
 ·rename_i hb0
  rw[hp] at hb
  refine hnext _ (k+1) ((st hb0).nx hb) (st hb0).ms ?_
  have ead:=(st hb0).ad
  subst hA2 hA
  exact⟨⟨⟨rfl,rfl,leI ead⟩,⟨rfl,rfl,fun _=>rfl⟩,⟨rfl,rfl,fun _=>rfl⟩,⟨rfl,rfl,fun _=>rfl⟩,⟨rfl,rfl,fun _=>rfl⟩,trivial⟩,⟨aF rfl,trivial⟩,rfl,rfl⟩
 ·have e:=(en hb).ix
  apply hexit
  clear hexit hnext hret st en
  cbv
  refine hk _ _ (bW.pure rfl rfl fun ρ=>dL ?_)
  exact e.symm
def uE7 (A:Alg) (U:SU):List (Nat×bU):=(134,aR [.a (.s (.int .i64)), .a (.f [])] A (Ju A U)) :: ([])
theorem Rx:COK Tryz.prog (aN (uE7 aA bN)):=aB GG (bC)
theorem GA:aJ Tryz.prog 109 (aR [.a (.s (.int .i64)), .a (.f [])] aA (Jj aA bN)):=by
 refine aW (un:=⟨false,some [0,1,4]⟩) tok Rx aL (fn:=Tryz.f109) ?_
 intro w Wr args bs r hg ho hWr A L k hA hL hk
 obtain⟨U,hU⟩:=exE bN
 try rw[← hU]
 try rw[← hA]
 unfold Jj at hg
 split at hg <;> cases hg
 rename_i l
 have o1:=(aG ho).1
 rw[← hA] at o1
 clear ho
 have e:A.cmp .geq (U.idxI l) 0=U.anyI l:=by subst hA hU;exact uM (aY l) fun k=>decide (mU l k≠2)
 cbv
 repeat' with_reducible first | (intro hb;cbv) | refine UM ?_ ?_
 ·exact o1
 refine hk _ _ (bW.pure rfl rfl fun ρ=>dB ?_)
 subst hU
 exact e
end Go.Eng
