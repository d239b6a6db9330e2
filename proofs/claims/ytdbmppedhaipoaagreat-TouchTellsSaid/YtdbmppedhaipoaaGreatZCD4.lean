
import Derived.Test.YtdbmppedhaipoaaGreatZCD3
set_option linter.all false
set_option exponentiation.threshold 3000
set_option maxRecDepth 100000
set_option maxHeartbeats 2000000
namespace Go.Eng
open Go.Proofs
def sR (U:SU):List CV→List Blk→Option LW
 | [.g [.s (.hs 0), .s (.hs 1), .s (.hs 2)]],[.vec false .i3 V, .vec false .i3 S, .vec false .pt l]=>some ⟨[], .c (.s (.bool (U.form V S l))),[],[]⟩
 | _,_=>none
theorem Fm (l:List Pt):(cY (aY l) fun k=> !dX [pC l k])= !dX l:=by
 have one: ∀ p,dX [p]=dJ p:=fun p=>by show(dJ p&&true)=_;rw[Bool.and_true]
 have get: ∀ i (h:i < l.length),pC l (i:Int)=l[i]:=fun i h=>by
  show(l[(i:Int).toNat]?).getD _=_
  rw[Int.toNat_natCast,List.getElem?_eq_getElem h];rfl
 cases h:dX l
 ·rw[Bool.not_false,mH]
  have h: ¬ (l.all dJ=true):=by rw[show l.all dJ=dX l from rfl,h];simp
  rw[List.all_eq_true] at h
  have h: ∃ x,x∈l∧dJ x=false:=by
   refine Classical.byContradiction fun hn=>h fun x hx=>?_
   cases hp:dJ x
   ·exact absurd ⟨x,hx,hp⟩ hn
   ·rfl
  obtain⟨x,hx,hp⟩:=h
  obtain⟨i,hi,rfl⟩:=List.getElem_of_mem hx
  exact⟨i,by omega,by unfold aY;omega,by rw[get i hi,one,hp];rfl⟩
 ·rw[Bool.not_true,dY]
  intro j h0 h1
  unfold aY at h1
  have hj:j.toNat < l.length:=by omega
  have:=get j.toNat hj
  rw[show((j.toNat:Nat):Int)=j from by omega] at this
  rw[this,one]
  have:=List.all_eq_true.1 h _ (List.getElem_mem hj)
  rw[this];rfl
structure FmF (A:Alg) (U:SU) (V S:List (Int×Int×Int)) (l:List Pt):Prop where
 c1:A.ite (A.ite (A.ite (A.cmp .eql (A.len V) 0) true (A.cmp .gtr (A.len V) 16)) true (A.cmp .gtr (A.len S) 16)) true (A.cmp .gtr (A.len l) 4)=true→false=U.form V S l
 lv:A.ite (A.ite (A.ite (A.cmp .eql (A.len V) 0) true (A.cmp .gtr (A.len V) 16)) true (A.cmp .gtr (A.len S) 16)) true (A.cmp .gtr (A.len l) 4)=false→aY V < 1000∧aY S < 1000∧A.cmp .lss (A.len l) 1000000=true∧
  U.form V S l=(!cY (aY V) (Cd V)&&(!cY (aY S) (zC V S)&&A.not (U.anyP l)))
 pv: ∀ k,A.not (A.ite (A.cmp .geq (A.get V k (0,0,0)).2.2 0) (A.cmp .leq (A.get V k (0,0,0)).2.2 1000000) false)=Cd V k
 ps: ∀ k,A.ite (A.ite (A.ite (A.not (U.has V (A.get S k (0,0,0)).1)) true (A.not (U.has V (A.get S k (0,0,0)).2.1))) true (A.cmp .eql (A.get S k (0,0,0)).1 (A.get S k (0,0,0)).2.1)) true
  (A.not (A.ite (A.cmp .geq (A.get S k (0,0,0)).2.2 0) (A.cmp .leq (A.get S k (0,0,0)).2.2 1000000) false))=zC V S k
theorem SG (A:Alg) (hA:A=aA) (U:SU) (hU:U=bN) (V S:List (Int×Int×Int)) (l:List Pt):FmF A U V S l:=by
 subst hA hU
 have e0:aA.ite (aA.ite (aA.ite (aA.cmp .eql (aA.len V) 0) true (aA.cmp .gtr (aA.len V) 16)) true (aA.cmp .gtr (aA.len S) 16)) true (aA.cmp .gtr (aA.len l) 4)=pB V S l:=by
  rw[dR,dR,dR,fG,Bool.or_assoc,Bool.or_assoc];rfl
 have ef:bN.form V S l=(!pB V S l&&(!cY (aY V) (Cd V)&&(!cY (aY S) (zC V S)&&aA.not (bN.anyP l)))):=by
  show iO V S l=_
  unfold iO
  have:bN.anyP l= !dX l:=Fm l
  rw[this]
  show _=(_&&(_&&(_&& !!dX l)))
  rw[Bool.not_not]
 refine⟨fun h=>?_,fun h=>?_,fun k=>?_,fun k=>?_⟩
 ·rw[e0] at h;rw[ef,h];rfl
 ·rw[e0] at h
  refine⟨?_,?_,?_,by rw[ef,h];rfl⟩
  all_goals (unfold pB at h;simp only[Bool.or_eq_false_iff,decide_eq_false_iff_not] at h)
  ·omega
  ·omega
  ·have h4:=h.2.2.2
   unfold aY at h4
   exact bH _ rfl _ _ (by show(l.length:Int) < 1000000;omega)
 ·rw[gF];rfl
 ·rw[dR,dR,dR,gF,fG,Bool.or_assoc,Bool.or_assoc];rfl
def uE9 (A:Alg) (U:SU):List (Nat×bU):=(104,aR [.g [.s .i3, .s .i3, .s .pt], .a .v] A (CX U)) :: (74,aR [.a (.s .pt), .a (.f [])] A (CP A U)) :: (103,aC [.v] A (JC A)) :: ([])
theorem Mg:COK Tryz.prog (aN (uE9 aA bN)):=aB yM (aB Ad (aB GL (bC)))
theorem GD:aJ Tryz.prog 69 (aR [.g [.s .i3, .s .i3, .s .pt]] aA (sR bN)):=by
 refine aW (un:=⟨false,some [0,1,2,3,5,7,37,41,42,43,44,51,56,57,58,59,89]⟩) tok Mg aL (fn:=Tryz.f69) ?_
 intro w Wr args bs r hg ho hWr A L k hA hL hk
 obtain⟨U,hU⟩:=exE bN
 try rw[← hU]
 try rw[← hA]
 unfold sR at hg
 split at hg <;> cases hg
 rename_i V S l
 have f:=SG A hA U hU V S l
 have hlv:A.len V=aY V:=by subst hA;rfl
 have hls:A.len S=aY S:=by subst hA;rfl
 have i0:AnI (aY V) (Cd V) 0:=cH (Int.natCast_nonneg _)
 have i1:AnI (aY S) (zC V S) 0:=cH (Int.natCast_nonneg _)
 clear ho
 cbv
 repeat' with_reducible first | (intro hb;cbv) | refine UM ?_ ?_
 ·refine hk _ _ (bW.pure rfl rfl fun ρ=>?_)
  have e:=f.c1 hb
  subst hU
  exact dT e
 obtain⟨lv,ls,ll,er⟩:=f.lv hb
 have pv:=f.pv
 have ps:=f.ps
 clear f hb
 refine hL _ _ _ (aQ (un:=⟨false,some [0,1,2,3,5,7,37,41,42,43,44,51,56,57,58,59,89]⟩) tok Mg aL (fun k:Int=>⟨[(43,⟨[], .c (.s (.int .i64 k))⟩),(42,⟨[], .c (.s (.int .i64 (A.len V)))⟩),(41,⟨[], .c (.s (.hs 0))⟩),(3,⟨[], .c (.s (.fn 103 []))⟩),(2,⟨[], .c (.s (.tt false))⟩),(1,⟨[], .c (.s (.hp 3 0))⟩)],[(3, .fix true [.s (.hs 0), .s (.hs 1), .s (.hs 2)]),(0, .vec false .i3 V),(1, .vec false .i3 S),(2, .vec false .pt l)],4⟩)
  (fun k=>AnI (aY V) (Cd V) k) (fun k=>(aY V - k).toNat) 0 i0 ?_ (fun _ i hi=>by have:=hWr i hi;simp at this;show i < 4;omega) ?_)
 ·exact⟨⟨⟨rfl,rfl,fun _=>rfl⟩,⟨rfl,rfl,fun _=>rfl⟩,⟨rfl,rfl,fun _=>rfl⟩,⟨rfl,rfl,fun _=>rfl⟩,⟨rfl,rfl,fun _=>rfl⟩,⟨rfl,rfl,fun _=>rfl⟩,trivial⟩,⟨aF rfl,aF rfl,aF rfl,aF rfl,trivial⟩,rfl,rfl⟩
 clear i0
 rintro k hI A2 L2 k2 hA2 hL2 hnext hexit hret
 have hlv2:=hlv
 rw[hA, ← hA2] at hlv2 pv
 have st:=fun hb:A2.cmp .lss k (A2.len V)=true=>c9 hI (by omega) A2 hA2 (by rw[← hlv2];exact hb)
 have en:=fun hb:A2.cmp .lss k (A2.len V)=false=>eK hI A2 hA2 (by rw[← hlv2];exact hb)
 clear hI
 rw[hA, ← hA2, ← hU]
 cbv
 repeat' with_reducible first | (intro hb;cbv) | refine UM ?_ ?_
 all_goals first | exact(st hb).o1 | exact hb | skip
 ·rename_i hb0
  rw[pv] at hb
  have e:=(st hb0).ht hb
  apply hret
  clear hexit hnext hret st en
  cbv
  refine hk _ _ (bW.pure rfl rfl fun ρ=>dT ?_)
  rw[e] at er
  subst hU
  exact er.symm
 ·rename_i hb0
  rw[pv] at hb
  refine hnext _ (k+1) ((st hb0).nx hb) (st hb0).ms ?_
  have ead:=(st hb0).ad
  subst hA2 hA
  exact⟨⟨⟨rfl,rfl,leI ead⟩,⟨rfl,rfl,fun _=>rfl⟩,⟨rfl,rfl,fun _=>rfl⟩,⟨rfl,rfl,fun _=>rfl⟩,⟨rfl,rfl,fun _=>rfl⟩,⟨rfl,rfl,fun _=>rfl⟩,trivial⟩,⟨aF rfl,aF rfl,aF rfl,aF rfl,trivial⟩,rfl,rfl⟩
 have ev:=(en hb).no
 apply hexit
 clear hexit hnext hret st en pv hlv2
 rw[ev] at er
 clear ev hb hL2
 cbv
 refine hL _ _ _ (aQ (un:=⟨false,some [0,1,2,3,5,7,37,41,42,43,44,51,56,57,58,59,89]⟩) tok Mg aL (fun k:Int=>⟨[(58,⟨[], .c (.s (.int .i64 k))⟩),(57,⟨[], .c (.s (.int .i64 (A.len S)))⟩),(56,⟨[], .c (.s (.hs 1))⟩),(3,⟨[], .c (.s (.fn 103 []))⟩),(2,⟨[], .c (.s (.tt false))⟩),(1,⟨[], .c (.s (.hp 3 0))⟩)],[(3, .fix true [.s (.hs 0), .s (.hs 1), .s (.hs 2)]),(0, .vec false .i3 V),(1, .vec false .i3 S),(2, .vec false .pt l)],4⟩)
  (fun k=>AnI (aY S) (zC V S) k) (fun k=>(aY S - k).toNat) 0 i1 ?_ (fun _ i hi=>by have:=hWr i hi;simp at this;show i < 4;omega) ?_)
 ·exact⟨⟨⟨rfl,rfl,fun _=>rfl⟩,⟨rfl,rfl,fun _=>rfl⟩,⟨rfl,rfl,fun _=>rfl⟩,⟨rfl,rfl,fun _=>rfl⟩,⟨rfl,rfl,fun _=>rfl⟩,⟨rfl,rfl,fun _=>rfl⟩,trivial⟩,⟨aF rfl,aF rfl,aF rfl,aF rfl,trivial⟩,rfl,rfl⟩
 clear i1
 rintro k hI A2 L2 k2 hA2 hL2 hnext hexit hret
 have hls2:=hls
 rw[hA, ← hA2] at hls2 ps
 have st:=fun hb:A2.cmp .lss k (A2.len S)=true=>c9 hI (by omega) A2 hA2 (by rw[← hls2];exact hb)
 have en:=fun hb:A2.cmp .lss k (A2.len S)=false=>eK hI A2 hA2 (by rw[← hls2];exact hb)
 clear hI
 rw[hA, ← hA2, ← hU]
 cbv
 repeat' with_reducible first | (intro hb;cbv) | refine UM ?_ ?_
 all_goals first | exact(st hb).o1 | exact hb | skip
 ·rename_i hb0
  rw[ps] at hb
  have e:=(st hb0).ht hb
  apply hret
  clear hexit hnext hret st en
  cbv
  refine hk _ _ (bW.pure rfl rfl fun ρ=>dT ?_)
  rw[e] at er
  subst hU
  exact er.symm
 ·rename_i hb0
  rw[ps] at hb
  refine hnext _ (k+1) ((st hb0).nx hb) (st hb0).ms ?_
  have ead:=(st hb0).ad
  subst hA2 hA
  exact⟨⟨⟨rfl,rfl,leI ead⟩,⟨rfl,rfl,fun _=>rfl⟩,⟨rfl,rfl,fun _=>rfl⟩,⟨rfl,rfl,fun _=>rfl⟩,⟨rfl,rfl,fun _=>rfl⟩,⟨rfl,rfl,fun _=>rfl⟩,trivial⟩,⟨aF rfl,aF rfl,aF rfl,aF rfl,trivial⟩,rfl,rfl⟩
 have ev:=(en hb).no
 apply hexit
 clear hexit hnext hret st en ps hls2
 rw[ev] at er
 clear ev hb hL2
 cbv
 repeat' with_reducible first | (intro hb;cbv) | refine UM ?_ ?_
 ·exact ll
 refine hk _ _ (bW.pure rfl rfl fun ρ=>dB ?_)
 subst hU
 exact er.symm
end Go.Eng
