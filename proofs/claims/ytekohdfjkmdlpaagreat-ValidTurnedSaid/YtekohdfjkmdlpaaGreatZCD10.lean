
import Derived.Test.YtekohdfjkmdlpaaGreatZCD9
set_option linter.all false
set_option exponentiation.threshold 3000
namespace Go.Eng
open Go.Proofs
set_option maxRecDepth 100000
set_option linter.all false
set_option exponentiation.threshold 3000
set_option maxHeartbeats 2000000
def xV (U:SU) (O:SO):List CV→List Blk→Option LW
 | [.g [.s (.hs 0), .s (.hs 1), .s (.hs 2)]],[.vec false .i3 V, .vec false .i3 S, .vec false .pt l]=>some ⟨[U.inb V], .c (.s (.int .i64 (O.check V S l))),[],[]⟩
 | _,_=>none
theorem CM {V S:List (Int×Int×Int)} {l:List Pt} (h:iO V S l=true):aY V < 1000∧aY S < 1000∧aY l < 1000:=by
 unfold iO at h
 simp only[Bool.and_eq_true,Bool.not_eq_true'] at h
 have h0:=h.1
 unfold pB at h0
 simp only[Bool.or_eq_false_iff,decide_eq_false_iff_not] at h0
 omega
structure Ck9 (A:Alg) (U:SU) (O:SO) (V S:List (Int×Int×Int)) (l:List Pt):Prop where
 c1:A.not (U.form V S l)=true→10=O.check V S l
 f:A.not (U.form V S l)=false→aY V < 1000∧aY S < 1000∧aY l < 1000
 e:A.not (U.form V S l)=false→O.check V S l=if cY (aY V) (fun k=>FA (cK V k))=true then 13 else if cY (aY V) (fun i=>cY i fun j=>r7 V i j)=true then 14 else if cY (aY V) (fun k=>decide (sK S k S.length≠2))=true then 15 else
  if cY (aY S) (fun i=>cY i fun j=>j3 V S i j)=true then 16 else if cY (aY l) (fun k=>rY V S (pC l k))=true then 17 else 0
theorem PG (A:Alg) (hA:A=aA) (U:SU) (hU:U=bN) (O:SO) (hO:O=pE) (V S:List (Int×Int×Int)) (l:List Pt):Ck9 A U O V S l:=by
 subst hA hU hO
 have e:pE.check V S l=if !bN.form V S l then 10 else if cY (aY V) (fun k=>FA (cK V k))=true then 13 else if cY (aY V) (fun i=>cY i fun j=>r7 V i j)=true then 14 else if cY (aY V) (fun k=>decide (sK S k S.length≠2))=true then 15 else
  if cY (aY S) (fun i=>cY i fun j=>j3 V S i j)=true then 16 else if cY (aY l) (fun k=>rY V S (pC l k))=true then 17 else 0:=rfl
 have n: ∀ b,aA.not b= !b:=fun b=>rfl
 refine⟨fun h=>?_,fun h=>?_,fun h=>?_⟩
 ·rw[n] at h;rw[e,h];rfl
 ·rw[n,Bool.not_eq_false'] at h
  exact CM h
 ·rw[n] at h;rw[e,h];rfl
def uC5 (A:Alg) (U:SU) (O:SO):List (Nat×bU):=(84,aR [.g [.s .i3, .s .i3, .s .pt]] A (sR U)) :: (85,aR [.g [.s .i3, .s .i3, .s .pt], .a .v] A (PP A O)) :: (86,aR [.g [.s .i3, .s .i3, .s .pt], .a .v, .a .v] A (xW A U O)) :: (87,aR [.g [.s .i3, .s .i3, .s .pt], .a .v] A (CY A U O)) :: ([])
theorem wR:COK Tryz.prog (aN (uC5 aA bN pE)):=aB Gt (aB KN (aB DV (aB Gv (bC))))
theorem DU:aJ Tryz.prog 33 (aR [.g [.s .i3, .s .i3, .s .pt]] aA (xV bN pE)):=by
 refine aW (un:=⟨false,some [0,1,2,3,4,5,6,7,8,9,10,13,18,43,48,53,83,88,94,99,104,110,115,124]⟩) tok wR aL (fn:=Tryz.f33) (by kernel_rfl) (by kernel_rfl) (by kernel_rfl) (by decide +kernel) ?_
 intro w Wr args bs r hg ho hWr A L k hA hL hk
 obtain⟨O,hO⟩: ∃ O,O=pE:=⟨_,rfl⟩
 obtain⟨U,hU⟩: ∃ U,U=bN:=⟨_,rfl⟩
 (try rw[← hO])
 (try rw[← hU])
 (try rw[← hA])
 unfold xV at hg
 split at hg
 rotate_left
 ·cases hg
 simp only[Option.some.injEq] at hg
 subst hg
 rename_i V S l
 have hin:U.inb V=true:=by rw[hU];exact(aG ho).1
 clear ho
 have f:=PG A hA U hU O hO V S l
 have i1:AnI (aY V) (fun k=>FA (cK V k)) 0:=cH (Int.natCast_nonneg _)
 have i2:AnI (aY V) (fun i=>cY i fun j=>r7 V i j) 0:=cH (Int.natCast_nonneg _)
 have i3:AnI (aY V) (fun k=>decide (sK S k S.length≠2)) 0:=cH (Int.natCast_nonneg _)
 have i4:AnI (aY S) (fun i=>cY i fun j=>j3 V S i j) 0:=cH (Int.natCast_nonneg _)
 have i5:AnI (aY l) (fun k=>rY V S (pC l k)) 0:=cH (Int.natCast_nonneg _)
 have p1: ∀ k,A.ite (A.ite (A.ite (A.cmp .lss (A.get V k (0,0,0)).1 0) true (A.cmp .lss (A.get V k (0,0,0)).2.1 0)) true (A.cmp .gtr (A.get V k (0,0,0)).1 64)) true (A.cmp .gtr (A.get V k (0,0,0)).2.1 64)=FA (cK V k):=fun k=>by
  subst hA
  rw[dR,dR,dR,Bool.or_assoc,Bool.or_assoc];rfl
 have p2: ∀ i j,A.ite (A.cmp .eql (A.get V i (0,0,0)).1 (A.get V j (0,0,0)).1) (A.cmp .eql (A.get V i (0,0,0)).2.1 (A.get V j (0,0,0)).2.1) false=r7 V i j:=fun i j=>by
  subst hA
  rw[gF,fG,fG];rfl
 have p3: ∀ k,A.cmp .neq (O.deg S k) 2=decide (sK S k S.length≠2):=fun k=>by
  subst hA hO
  show(sK S k S.length != 2)=decide (sK S k S.length≠2)
  by_cases h:sK S k S.length=2 <;> simp[h]
 have p4: ∀ i j,O.cross V S i j=j3 V S i j:=fun i j=>by subst hO;rfl
 have p5: ∀ k,O.hole V S (A.get l k ⟨⟨⟨false,A.zD⟩,⟨false,A.zD⟩⟩,⟨⟨false,A.zD⟩,⟨false,A.zD⟩⟩⟩)=rY V S (pC l k):=fun k=>by subst hA hO;rfl
 cbv
 repeat' first | (with_reducible intro hb;cbv) | with_reducible refine And.intro ?_ ?_
 ·refine hk _ _ (bW.pure rfl rfl fun ρ=>?_)
  have e:=f.c1 hb
  subst hO
  exact dL e
 obtain⟨lv,ls,ll⟩:=f.f hb
 have er:=f.e hb
 clear f hb
 refine hL _ _ _ (aQ (un:=⟨false,some [0,1,2,3,4,5,6,7,8,9,10,13,18,43,48,53,83,88,94,99,104,110,115,124]⟩) tok wR aL (fun k:Int=>⟨[(3,⟨[], .c (.s (.int .i64 k))⟩),(2,⟨[], .c (.s (.lit .i64 0))⟩),(1,⟨[], .c (.s (.hp 3 0))⟩)],[(3, .fix true [.s (.hs 0), .s (.hs 1), .s (.hs 2)]),(0, .vec false .i3 V),(1, .vec false .i3 S),(2, .vec false .pt l)],4⟩) (fun k=>AnI (aY V) (fun k=>FA (cK V k)) k) (fun k=>(aY V - k).toNat) 0 i1 ?_ (fun _ i hi=>by have:=hWr i hi;simp at this;show i < 4;omega) ?_)
 ·exact⟨⟨⟨rfl,rfl,fun _=>rfl⟩,⟨rfl,rfl,fun _=>rfl⟩,⟨rfl,rfl,fun _=>rfl⟩,trivial⟩,⟨aF rfl,aF rfl,aF rfl,aF rfl,trivial⟩,rfl,rfl⟩
 clear i1
 rintro k hI2 A2 L2 k2 hA2 hL2 hnext2 hexit2 hret2
 have hn2:A2.len V=aY V:=by subst hA2;rfl
 have st2:=fun hb:A2.cmp .lss k (A2.len V)=true=>c9 hI2 (by omega) A2 hA2 (by rw[← hn2];exact hb)
 have en2:=fun hb:A2.cmp .lss k (A2.len V)=false=>eK hI2 A2 hA2 (by rw[← hn2];exact hb)
 clear hI2
 rw[hA, ← hA2] at p1
 rw[← hA2, ← hU, ← hO]
 cbv
 repeat' first | (with_reducible intro hb;cbv) | with_reducible refine And.intro ?_ ?_
 all_goals first | exact(st2 hb).o1 | exact hb | exact sV hA2 (st2 hb).o1 | exact sV hA2 hb | exact hin | skip
 ·rename_i hb0
  rw[p1] at hb
  have e:=(st2 hb0).ht hb
  apply hret2
  clear hexit2 hnext2 hret2 st2 en2
  cbv
  refine hk _ _ (bW.pure rfl rfl fun ρ=>dL ?_)
  simp only[e,if_true] at er
  subst hO
  exact er.symm
 ·rename_i hb0
  rw[p1] at hb
  refine hnext2 _ (k+1) ((st2 hb0).nx hb) (st2 hb0).ms ?_
  have ead:=(st2 hb0).ad
  subst hA2 hA
  exact⟨⟨⟨rfl,rfl,leI ead⟩,⟨rfl,rfl,fun _=>rfl⟩,⟨rfl,rfl,fun _=>rfl⟩,trivial⟩,⟨aF rfl,aF rfl,aF rfl,aF rfl,trivial⟩,rfl,rfl⟩
 have ev:=(en2 hb).no
 apply hexit2
 clear hexit2 hnext2 hret2 st2 en2 p1
 simp only[ev,Bool.false_eq_true,if_false] at er
 clear ev hb hL2
 cbv
 refine hL _ _ _ (aQ (un:=⟨false,some [0,1,2,3,4,5,6,7,8,9,10,13,18,43,48,53,83,88,94,99,104,110,115,124]⟩) tok wR aL (fun i:Int=>⟨[(5,⟨[], .c (.s (.int .i64 i))⟩),(2,⟨[], .c (.s (.lit .i64 0))⟩),(1,⟨[], .c (.s (.hp 3 0))⟩)],[(3, .fix true [.s (.hs 0), .s (.hs 1), .s (.hs 2)]),(0, .vec false .i3 V),(1, .vec false .i3 S),(2, .vec false .pt l)],4⟩) (fun i=>AnI (aY V) (fun i=>cY i fun j=>r7 V i j) i) (fun i=>(aY V - i).toNat) 0 i2 ?_ (fun _ i hi=>by have:=hWr i hi;simp at this;show i < 4;omega) ?_)
 ·exact⟨⟨⟨rfl,rfl,fun _=>rfl⟩,⟨rfl,rfl,fun _=>rfl⟩,⟨rfl,rfl,fun _=>rfl⟩,trivial⟩,⟨aF rfl,aF rfl,aF rfl,aF rfl,trivial⟩,rfl,rfl⟩
 clear i2
 rintro i hI3 A3 L3 k3 hA3 hL3 hnext3 hexit3 hret3
 have hn3:A3.len V=aY V:=by subst hA3;rfl
 have st3:=fun hb:A3.cmp .lss i (A3.len V)=true=>c9 hI3 (by omega) A3 hA3 (by rw[← hn3];exact hb)
 have en3:=fun hb:A3.cmp .lss i (A3.len V)=false=>eK hI3 A3 hA3 (by rw[← hn3];exact hb)
 have hi1:=hI3.k1
 have j0:AnI i (fun j=>r7 V i j) 0:=cH hI3.k0
 clear hI3
 rw[← hA3, ← hU, ← hO]
 cbv
 repeat' first | (with_reducible intro hb;cbv) | with_reducible refine And.intro ?_ ?_
 ·have hbi:=hb
  have st3:=st3 hb
  clear en3 hb
  refine hL3 _ _ _ (aQ (un:=⟨false,some [0,1,2,3,4,5,6,7,8,9,10,13,18,43,48,53,83,88,94,99,104,110,115,124]⟩) tok wR aL (fun j:Int=>⟨[(6,⟨[], .c (.s (.int .i64 j))⟩),(5,⟨[], .c (.s (.int .i64 i))⟩),(2,⟨[], .c (.s (.lit .i64 0))⟩),(1,⟨[], .c (.s (.hp 3 0))⟩)],[(3, .fix true [.s (.hs 0), .s (.hs 1), .s (.hs 2)]),(0, .vec false .i3 V),(1, .vec false .i3 S),(2, .vec false .pt l)],4⟩) (fun j=>AnI (i) (fun j=>r7 V i j) j) (fun j=>(i - j).toNat) 0 j0 ?_ (fun _ i hi=>by have:=hWr i hi;simp at this;show i < 4;omega) ?_)
  ·exact⟨⟨⟨rfl,rfl,fun _=>rfl⟩,⟨rfl,rfl,fun _=>rfl⟩,⟨rfl,rfl,fun _=>rfl⟩,⟨rfl,rfl,fun _=>rfl⟩,trivial⟩,⟨aF rfl,aF rfl,aF rfl,aF rfl,trivial⟩,rfl,rfl⟩
  clear j0
  rintro j hI4 A4 L4 k4 hA4 hL4 hnext4 hexit4 hret4
  have st4:=fun hb:A4.cmp .lss j (i)=true=>c9 hI4 (by omega) A4 hA4 hb
  have en4:=fun hb:A4.cmp .lss j (i)=false=>eK hI4 A4 hA4 hb
  have oi:A4.cmp .leq 0 i=true:=by rw[hA4, ← hA3];exact st3.o1
  have hbi3:A4.cmp .lss i (A4.len V)=true:=by rw[hA4, ← hA3];exact hbi
  have hbj:A4.cmp .lss j i=true→A4.cmp .lss j (A4.len V)=true:=fun hb=>by
   subst hA4 hA3
   have h1:i < aY V:=of_decide_eq_true hbi
   have h2:j < i:=of_decide_eq_true hb
   exact bH _ rfl _ _ (by show j < aY V;omega)
  clear hI4
  rw[hA, ← hA4] at p2
  rw[← hA4, ← hU, ← hO]
  cbv
  repeat' first | (with_reducible intro hb;cbv) | with_reducible refine And.intro ?_ ?_
  all_goals first | exact oi | exact hbi3 | exact(st4 hb).o1 | exact hbj hb | exact hin | exact sV hA4 oi | exact sV hA4 hbi3 | exact sV hA4 (st4 hb).o1 | exact sV hA4 (hbj hb) | skip
  ·rename_i hb0
   rw[p2] at hb
   have e:=st3.ht ((st4 hb0).ht hb)
   apply hret4
   clear hexit4 hnext4 hret4 st4 en4
   cbv
   apply hret3
   clear hexit3 hnext3 hret3 st3
   cbv
   refine hk _ _ (bW.pure rfl rfl fun ρ=>dL ?_)
   simp only[e,if_true] at er
   subst hO
   exact er.symm
  ·rename_i hb0
   rw[p2] at hb
   refine hnext4 _ (j+1) ((st4 hb0).nx hb) (st4 hb0).ms ?_
   have ead:=(st4 hb0).ad
   subst hA4 hA
   exact⟨⟨⟨rfl,rfl,leI ead⟩,⟨rfl,rfl,fun _=>rfl⟩,⟨rfl,rfl,fun _=>rfl⟩,⟨rfl,rfl,fun _=>rfl⟩,trivial⟩,⟨aF rfl,aF rfl,aF rfl,aF rfl,trivial⟩,rfl,rfl⟩
  ·have ev:=(en4 hb).no
   apply hexit4
   clear hexit4 hnext4 hret4 st4 en4
   cbv
   refine hnext3 _ (i+1) (st3.nx ev) st3.ms ?_
   have ead:=st3.ad
   subst hA4 hA3 hA
   exact⟨⟨⟨rfl,rfl,leI ead⟩,⟨rfl,rfl,fun _=>rfl⟩,⟨rfl,rfl,fun _=>rfl⟩,trivial⟩,⟨aF rfl,aF rfl,aF rfl,aF rfl,trivial⟩,rfl,rfl⟩
 have ev:=(en3 hb).no
 apply hexit3
 clear hexit3 hnext3 hret3 st3 en3 p2
 simp only[ev,Bool.false_eq_true,if_false] at er
 clear ev hb hL3
 cbv
 refine hL _ _ _ (aQ (un:=⟨false,some [0,1,2,3,4,5,6,7,8,9,10,13,18,43,48,53,83,88,94,99,104,110,115,124]⟩) tok wR aL (fun k:Int=>⟨[(7,⟨[], .c (.s (.int .i64 k))⟩),(2,⟨[], .c (.s (.lit .i64 0))⟩),(1,⟨[], .c (.s (.hp 3 0))⟩)],[(3, .fix true [.s (.hs 0), .s (.hs 1), .s (.hs 2)]),(0, .vec false .i3 V),(1, .vec false .i3 S),(2, .vec false .pt l)],4⟩) (fun k=>AnI (aY V) (fun k=>decide (sK S k S.length≠2)) k) (fun k=>(aY V - k).toNat) 0 i3 ?_ (fun _ i hi=>by have:=hWr i hi;simp at this;show i < 4;omega) ?_)
 ·exact⟨⟨⟨rfl,rfl,fun _=>rfl⟩,⟨rfl,rfl,fun _=>rfl⟩,⟨rfl,rfl,fun _=>rfl⟩,trivial⟩,⟨aF rfl,aF rfl,aF rfl,aF rfl,trivial⟩,rfl,rfl⟩
 clear i3
 rintro k hI5 A5 L5 k5 hA5 hL5 hnext5 hexit5 hret5
 have hn5:A5.len V=aY V:=by subst hA5;rfl
 have st5:=fun hb:A5.cmp .lss k (A5.len V)=true=>c9 hI5 (by omega) A5 hA5 (by rw[← hn5];exact hb)
 have en5:=fun hb:A5.cmp .lss k (A5.len V)=false=>eK hI5 A5 hA5 (by rw[← hn5];exact hb)
 clear hI5
 rw[hA, ← hA5] at p3
 rw[← hA5, ← hU, ← hO]
 cbv
 repeat' first | (with_reducible intro hb;cbv) | with_reducible refine And.intro ?_ ?_
 all_goals first | exact(st5 hb).o1 | exact hb | exact sV hA5 (st5 hb).o1 | exact sV hA5 hb | exact hin | exact bH _ hA5 _ _ (by subst hA5;show aY S < 1000000;omega) | skip
 ·rename_i hb0
  rw[p3] at hb
  have e:=(st5 hb0).ht hb
  apply hret5
  clear hexit5 hnext5 hret5 st5 en5
  cbv
  refine hk _ _ (bW.pure rfl rfl fun ρ=>dL ?_)
  simp only[e,if_true] at er
  subst hO
  exact er.symm
 ·rename_i hb0
  rw[p3] at hb
  refine hnext5 _ (k+1) ((st5 hb0).nx hb) (st5 hb0).ms ?_
  have ead:=(st5 hb0).ad
  subst hA5 hA
  exact⟨⟨⟨rfl,rfl,leI ead⟩,⟨rfl,rfl,fun _=>rfl⟩,⟨rfl,rfl,fun _=>rfl⟩,trivial⟩,⟨aF rfl,aF rfl,aF rfl,aF rfl,trivial⟩,rfl,rfl⟩
 have ev:=(en5 hb).no
 apply hexit5
 clear hexit5 hnext5 hret5 st5 en5 p3
 simp only[ev,Bool.false_eq_true,if_false] at er
 clear ev hb hL5
 cbv
 refine hL _ _ _ (aQ (un:=⟨false,some [0,1,2,3,4,5,6,7,8,9,10,13,18,43,48,53,83,88,94,99,104,110,115,124]⟩) tok wR aL (fun i:Int=>⟨[(8,⟨[], .c (.s (.int .i64 i))⟩),(2,⟨[], .c (.s (.lit .i64 0))⟩),(1,⟨[], .c (.s (.hp 3 0))⟩)],[(3, .fix true [.s (.hs 0), .s (.hs 1), .s (.hs 2)]),(0, .vec false .i3 V),(1, .vec false .i3 S),(2, .vec false .pt l)],4⟩) (fun i=>AnI (aY S) (fun i=>cY i fun j=>j3 V S i j) i) (fun i=>(aY S - i).toNat) 0 i4 ?_ (fun _ i hi=>by have:=hWr i hi;simp at this;show i < 4;omega) ?_)
 ·exact⟨⟨⟨rfl,rfl,fun _=>rfl⟩,⟨rfl,rfl,fun _=>rfl⟩,⟨rfl,rfl,fun _=>rfl⟩,trivial⟩,⟨aF rfl,aF rfl,aF rfl,aF rfl,trivial⟩,rfl,rfl⟩
 clear i4
 rintro i hI6 A6 L6 k6 hA6 hL6 hnext6 hexit6 hret6
 have hn6:A6.len S=aY S:=by subst hA6;rfl
 have st6:=fun hb:A6.cmp .lss i (A6.len S)=true=>c9 hI6 (by omega) A6 hA6 (by rw[← hn6];exact hb)
 have en6:=fun hb:A6.cmp .lss i (A6.len S)=false=>eK hI6 A6 hA6 (by rw[← hn6];exact hb)
 have hi1:=hI6.k1
 have j0:AnI i (fun j=>j3 V S i j) 0:=cH hI6.k0
 clear hI6
 rw[← hA6, ← hU, ← hO]
 cbv
 repeat' first | (with_reducible intro hb;cbv) | with_reducible refine And.intro ?_ ?_
 ·have hbi:=hb
  have st6:=st6 hb
  clear en6 hb
  refine hL6 _ _ _ (aQ (un:=⟨false,some [0,1,2,3,4,5,6,7,8,9,10,13,18,43,48,53,83,88,94,99,104,110,115,124]⟩) tok wR aL (fun j:Int=>⟨[(9,⟨[], .c (.s (.int .i64 j))⟩),(8,⟨[], .c (.s (.int .i64 i))⟩),(2,⟨[], .c (.s (.lit .i64 0))⟩),(1,⟨[], .c (.s (.hp 3 0))⟩)],[(3, .fix true [.s (.hs 0), .s (.hs 1), .s (.hs 2)]),(0, .vec false .i3 V),(1, .vec false .i3 S),(2, .vec false .pt l)],4⟩) (fun j=>AnI (i) (fun j=>j3 V S i j) j) (fun j=>(i - j).toNat) 0 j0 ?_ (fun _ i hi=>by have:=hWr i hi;simp at this;show i < 4;omega) ?_)
  ·exact⟨⟨⟨rfl,rfl,fun _=>rfl⟩,⟨rfl,rfl,fun _=>rfl⟩,⟨rfl,rfl,fun _=>rfl⟩,⟨rfl,rfl,fun _=>rfl⟩,trivial⟩,⟨aF rfl,aF rfl,aF rfl,aF rfl,trivial⟩,rfl,rfl⟩
  clear j0
  rintro j hI7 A7 L7 k7 hA7 hL7 hnext7 hexit7 hret7
  have st7:=fun hb:A7.cmp .lss j (i)=true=>c9 hI7 (by omega) A7 hA7 hb
  have en7:=fun hb:A7.cmp .lss j (i)=false=>eK hI7 A7 hA7 hb
  have oi:A7.cmp .leq 0 i=true:=by rw[hA7, ← hA6];exact st6.o1
  have hbi3:A7.cmp .lss i (A7.len S)=true:=by rw[hA7, ← hA6];exact hbi
  have hbj:A7.cmp .lss j i=true→A7.cmp .lss j (A7.len S)=true:=fun hb=>by
   subst hA7 hA6
   have h1:i < aY S:=of_decide_eq_true hbi
   have h2:j < i:=of_decide_eq_true hb
   exact bH _ rfl _ _ (by show j < aY S;omega)
  clear hI7
  rw[← hA7, ← hU, ← hO]
  cbv
  repeat' first | (with_reducible intro hb;cbv) | with_reducible refine And.intro ?_ ?_
  all_goals first | exact oi | exact hbi3 | exact(st7 hb).o1 | exact hbj hb | exact hin | exact sV hA7 oi | exact sV hA7 hbi3 | exact sV hA7 (st7 hb).o1 | exact sV hA7 (hbj hb) | skip
  ·rename_i hb0
   rw[p4] at hb
   have e:=st6.ht ((st7 hb0).ht hb)
   apply hret7
   clear hexit7 hnext7 hret7 st7 en7
   cbv
   apply hret6
   clear hexit6 hnext6 hret6 st6
   cbv
   refine hk _ _ (bW.pure rfl rfl fun ρ=>dL ?_)
   simp only[e,if_true] at er
   subst hO
   exact er.symm
  ·rename_i hb0
   rw[p4] at hb
   refine hnext7 _ (j+1) ((st7 hb0).nx hb) (st7 hb0).ms ?_
   have ead:=(st7 hb0).ad
   subst hA7 hA
   exact⟨⟨⟨rfl,rfl,leI ead⟩,⟨rfl,rfl,fun _=>rfl⟩,⟨rfl,rfl,fun _=>rfl⟩,⟨rfl,rfl,fun _=>rfl⟩,trivial⟩,⟨aF rfl,aF rfl,aF rfl,aF rfl,trivial⟩,rfl,rfl⟩
  ·have ev:=(en7 hb).no
   apply hexit7
   clear hexit7 hnext7 hret7 st7 en7
   cbv
   refine hnext6 _ (i+1) (st6.nx ev) st6.ms ?_
   have ead:=st6.ad
   subst hA7 hA6 hA
   exact⟨⟨⟨rfl,rfl,leI ead⟩,⟨rfl,rfl,fun _=>rfl⟩,⟨rfl,rfl,fun _=>rfl⟩,trivial⟩,⟨aF rfl,aF rfl,aF rfl,aF rfl,trivial⟩,rfl,rfl⟩
 have ev:=(en6 hb).no
 apply hexit6
 clear hexit6 hnext6 hret6 st6 en6 p4
 simp only[ev,Bool.false_eq_true,if_false] at er
 clear ev hb hL6
 cbv
 refine hL _ _ _ (aQ (un:=⟨false,some [0,1,2,3,4,5,6,7,8,9,10,13,18,43,48,53,83,88,94,99,104,110,115,124]⟩) tok wR aL (fun k:Int=>⟨[(10,⟨[], .c (.s (.int .i64 k))⟩),(2,⟨[], .c (.s (.lit .i64 0))⟩),(1,⟨[], .c (.s (.hp 3 0))⟩)],[(3, .fix true [.s (.hs 0), .s (.hs 1), .s (.hs 2)]),(0, .vec false .i3 V),(1, .vec false .i3 S),(2, .vec false .pt l)],4⟩) (fun k=>AnI (aY l) (fun k=>rY V S (pC l k)) k) (fun k=>(aY l - k).toNat) 0 i5 ?_ (fun _ i hi=>by have:=hWr i hi;simp at this;show i < 4;omega) ?_)
 ·exact⟨⟨⟨rfl,rfl,fun _=>rfl⟩,⟨rfl,rfl,fun _=>rfl⟩,⟨rfl,rfl,fun _=>rfl⟩,trivial⟩,⟨aF rfl,aF rfl,aF rfl,aF rfl,trivial⟩,rfl,rfl⟩
 clear i5
 rintro k hI8 A8 L8 k8 hA8 hL8 hnext8 hexit8 hret8
 have hn8:A8.len l=aY l:=by subst hA8;rfl
 have st8:=fun hb:A8.cmp .lss k (A8.len l)=true=>c9 hI8 (by omega) A8 hA8 (by rw[← hn8];exact hb)
 have en8:=fun hb:A8.cmp .lss k (A8.len l)=false=>eK hI8 A8 hA8 (by rw[← hn8];exact hb)
 clear hI8
 rw[hA, ← hA8] at p5
 rw[← hA8, ← hU, ← hO]
 cbv
 repeat' first | (with_reducible intro hb;cbv) | with_reducible refine And.intro ?_ ?_
 all_goals first | exact(st8 hb).o1 | exact hb | exact sV hA8 (st8 hb).o1 | exact sV hA8 hb | exact hin | exact bH _ hA8 _ _ (by subst hA8;show aY S < 1000000;omega) | skip
 ·rename_i hb0
  rw[p5] at hb
  have e:=(st8 hb0).ht hb
  apply hret8
  clear hexit8 hnext8 hret8 st8 en8
  cbv
  refine hk _ _ (bW.pure rfl rfl fun ρ=>dL ?_)
  simp only[e,if_true] at er
  subst hO
  exact er.symm
 ·rename_i hb0
  rw[p5] at hb
  refine hnext8 _ (k+1) ((st8 hb0).nx hb) (st8 hb0).ms ?_
  have ead:=(st8 hb0).ad
  subst hA8 hA
  exact⟨⟨⟨rfl,rfl,leI ead⟩,⟨rfl,rfl,fun _=>rfl⟩,⟨rfl,rfl,fun _=>rfl⟩,trivial⟩,⟨aF rfl,aF rfl,aF rfl,aF rfl,trivial⟩,rfl,rfl⟩
 have ev:=(en8 hb).no
 apply hexit8
 clear hexit8 hnext8 hret8 st8 en8 p5
 simp only[ev,Bool.false_eq_true,if_false] at er
 clear ev hb hL8
 cbv
 refine hk _ _ (bW.pure rfl rfl fun ρ=>dL ?_)
 subst hO
 exact er.symm
end Go.Eng

