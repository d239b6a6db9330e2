
import Derived.Test.YtdbmppedhaipoaaGreatSpecU3
set_option linter.all false
set_option exponentiation.threshold 3000
set_option maxRecDepth 100000
namespace Go.Eng
theorem Of {V:List (Int×Int×Int)} (hb:pV V) (ht:yY V=false) {u v:Int} (hu:0≤u∧u < aY V) (hv:0≤v∧v < aY V) (h:ptV V u=ptV V v):u=v:=by
 have ex:axV V u=axV V v:=by
  have:=(hb.at u).x
  rw[h,(hb.at v).x] at this
  exact(Rat.intCast_inj.1 this).symm
 have ey:ayV V u=ayV V v:=by
  have:=(hb.at u).y
  rw[h,(hb.at v).y] at this
  exact(Rat.intCast_inj.1 this).symm
 have key: ∀ i j,0≤j→j < i→i < aY V→ ¬ (axV V i=axV V j∧ayV V i=ayV V j):=fun i j h0 h1 h2 hh=>by
  have:=dY.1 (dY.1 ht i (by omega) h2) j h0 h1
  unfold vE at this
  rw[hh.1,hh.2] at this
  simp at this
 rcases Int.lt_trichotomy u v with h1 | h1 | h1
 ·exact absurd ⟨ex.symm,ey.symm⟩ (key v u hu.1 h1 hv.2)
 ·exact h1
 ·exact absurd ⟨ex,ey⟩ (key u v hv.1 h1 hu.2)
theorem Nq {V:List (Int×Int×Int)} (hb:pV V) (a b c d:Int):kM.meet (ptV V a) (ptV V b) (ptV V c) (ptV V d)=lL (ptV V a) (ptV V b) (ptV V c) (ptV V d):=by
 have h:dX [ptV V a,ptV V b,ptV V c,ptV V d]=true:=by
  show(dJ _&&(dJ _&&(dJ _&&(dJ _&&true))))=true
  rw[(hb.at a).is,(hb.at b).is,(hb.at c).is,(hb.at d).is];rfl
 exact if_pos h
theorem Ct {V S:List (Int×Int×Int)} (hb:pV V) (ht:yY V=false) (hs:Fj V S) {i j:Int} (hi:0≤i∧i < aY S) (hj:0≤j∧j < aY S):j4 V S i j=j3 V S i j:=by
 have hi1:=hs.a0 i hi.1 hi.2
 have hi2:=hs.b0 i hi.1 hi.2
 have hj1:=hs.a0 j hj.1 hj.2
 have hj2:=hs.b0 j hj.1 hj.2
 have inj: ∀ {u v:Int},0≤u∧u < aY V→0≤v∧v < aY V→ptV V u=ptV V v→u=v:=fun hu hv h=>Of hb ht hu hv h
 unfold j4 j3 J5 isEnd
 rw[Nq hb]
 simp only[S2 hb,O0 hb,QK]
 exact AS (ptV V) _ _ _ _ (hs.ne i hi.1 hi.2) (hs.ne j hj.1 hj.2) (inj hi1 hj1) (inj hi1 hj2) (inj hi2 hj1) (inj hi2 hj2) (fun h=>hs.ne i hi.1 hi.2 (inj hi1 hi2 h)) (fun h=>hs.ne j hj.1 hj.2 (inj hj1 hj2 h))
theorem Oc {x:Rt} (hx:fT x 60):outR x=GU x:=by
 have c0:Cal (bD.at_ 0 0).X ((0:Int):Rat) 60:=(Cal.int (z:=0) (k:=60) (by show(0:Int).natAbs < 2 ^ 60;decide) (by decide) (by decide))
 have y0:Cal (bD.at_ 0 0).Y ((0:Int):Rat) 60:=c0
 have c64:Cal (bD.at_ 64 0).X ((64:Int):Rat) 60:=(Cal.int (z:=64) (k:=60) (by show(64:Int).natAbs < 2 ^ 60;decide) (by decide) (by decide))
 have y64:Cal (bD.at_ 64 0).Y ((0:Int):Rat) 60:=c0
 have w64:Cal (bD.whole 64) ((64:Int):Rat) 60:=c64
 have cx:=Cal.of hx
 have p0:dJ (bD.at_ 0 0)=true:=fJ.2 ⟨c0.s,y0.s⟩
 have p64:dJ (bD.at_ 64 0)=true:=fJ.2 ⟨c64.s,y64.s⟩
 have px':dJ ⟨x,(bD.at_ 0 0).Y⟩=true:=fJ.2 ⟨hx,y0.s⟩
 have a1:bD.all [bD.at_ 0 0,⟨x,(bD.at_ 0 0).Y⟩]=true:=Po p0 px'
 have a2:bD.all [⟨x,(bD.at_ 0 0).Y⟩,bD.at_ 64 0]=true:=Po px' p64
 have e1:bD.cmp (bD.at_ 0 0) ⟨x,(bD.at_ 0 0).Y⟩=cZ 0 (bI x):=by
  rw[zG (a:=bD.at_ 0 0) (b:=⟨x,(bD.at_ 0 0).Y⟩) a1]
  unfold iQ
  have h1:px (bD.at_ 0 0)=0:=c0.v
  have h2:px ⟨x,(bD.at_ 0 0).Y⟩=bI x:=rfl
  have h3:cZ (py (bD.at_ 0 0)) (py ⟨x,(bD.at_ 0 0).Y⟩)=0:=(Em _ _).2 rfl
  rw[h1,h2,h3]
  split
  ·rfl
  ·rename_i h;simp at h;exact h.symm
 have e2:bD.cmp ⟨x,(bD.at_ 0 0).Y⟩ (bD.at_ 64 0)=cZ (bI x) 64:=by
  rw[zG (a:=⟨x,(bD.at_ 0 0).Y⟩) (b:=bD.at_ 64 0) a2]
  unfold iQ
  have h1:px (bD.at_ 64 0)=64:=c64.v
  have h2:px ⟨x,(bD.at_ 0 0).Y⟩=bI x:=rfl
  have h3:cZ (py ⟨x,(bD.at_ 0 0).Y⟩) (py (bD.at_ 64 0))=0:=(Em _ _).2 rfl
  rw[h1,h2,h3]
  split
  ·rfl
  ·rename_i h;simp at h;exact h.symm
 have e3:aO.sign x=cZ (bI x) 0:=cx.sign
 have e4:aO.cmp x (bD.whole 64)=cZ (bI x) 64:=by
  have:=(cx.cmp w64 (by decide)).2
  rw[this];rfl
 unfold outR GU
 rw[a1,a2,e1,e2,e3,e4]
 have e5:decide (cZ 0 (bI x) ≥ 0)=decide (cZ (bI x) 0≤0):=by
  rcases dH (bI x) 0 with ⟨_,h,h'⟩ | ⟨_,h,h'⟩ | ⟨_,h,h'⟩ <;> rw[h,h'] <;> rfl
 rw[e5];rfl
theorem FM {V S:List (Int×Int×Int)} (hb:pV V) {p:Pt} (hp:dJ p=true):(!qQ V S p)=rY V S p:=by
 have ip:=e9 hp
 unfold qQ rY
 rw[Oc ip.x,Oc ip.y]
 have e:cY (aY S) (Di V S p)=cY (aY S) (E9 V S p):=fC fun k _ _=>by
  have h:bD.all [ptV V (cK S k).1,ptV V (cK S k).2.1,p]=true:=AL (hb.at _).is (hb.at _).is hp
  unfold Di E9
  rw[h];rfl
 rw[e]
 cases GU p.X <;> cases GU p.Y <;> cases cY (aY S) (E9 V S p) <;> rfl
theorem GV {l:List Pt} {k:Int} (h0:0≤k) (h1:k < aY l):pC l k∈l:=by
 have hk:k.toNat < l.length:=by unfold aY at h1;omega
 have:pC l k=l[k.toNat]:=by
  show(l[k.toNat]?).getD _=_
  rw[List.getElem?_eq_getElem hk];rfl
 rw[this]
 exact List.getElem_mem hk
theorem Fr (V S:List (Int×Int×Int)) (l:List Pt):Cm V S l=Cl V S l:=by
 unfold Cm Cl
 cases hf:iO V S l
 ·rfl
 simp only[Bool.not_true,Bool.false_eq_true,if_false]
 have hs:=G8 hf
 rw[vM V]
 cases hb:cY (aY V) fun k=>FA (cK V k)
 rotate_left
 ·rfl
 simp only[Bool.not_false,Bool.not_true,Bool.false_eq_true,if_false]
 have hbox:pV V:=M2 (by rw[vM,hb];rfl)
 rw[← Hx V]
 cases ht:yY V
 rotate_left
 ·rfl
 simp only[Bool.false_eq_true,if_false]
 rw[FT hs,Bool.not_not]
 have hc:tZ V S=cY (aY S) fun i=>cY i fun j=>j3 V S i j:=fC fun i h0 h1=>fC fun j g0 g1=>Ct hbox ht hs ⟨h0,h1⟩ ⟨g0,by omega⟩
 rw[hc]
 have hh:(cY (aY l) fun k=> !qQ V S (pC l k))=cY (aY l) fun k=>rY V S (pC l k):=fC fun k h0 h1=>by
  refine FM hbox ?_
  unfold iO at hf
  simp only[Bool.and_eq_true] at hf
  exact List.all_eq_true.1 hf.2.2.2 _ (GV h0 h1)
 rw[hh]
end Go.Eng
