
import Derived.Test.YtlonkgccgccieaaCRA
import Derived.Test.YtlonkgccgccieaaSpecFA
set_option linter.all false
set_option exponentiation.threshold 3000
set_option maxRecDepth 100000
set_option maxHeartbeats 2000000
namespace Go.Eng
open Go.Proofs
def FD (A:Alg) (H:SH):List CV→List Blk→Option LR
 | [.s (.int .i64 x), .s (.int .i64 y)],[]=>some ⟨[A.cmp .leq (-9223372036854775808) x,A.cmp .lss x 9223372036854775808,A.cmp .leq (-9223372036854775808) y,A.cmp .lss y 9223372036854775808], .c (.g [.P (H.at_ x y)]),[]⟩
 | _,_=>none
def uH (A:Alg) (H:SH):List CV→List Blk→Option LR
 | [.s (.hs 0)],[.vec false .pt l]=>some ⟨[A.cmp .lss (A.len l) 1000000], .c (.s (.bool (H.all l))),[]⟩
 | _,_=>none
def ApI (l:List Pt) (k:Int):Prop:=0≤k∧k≤l.length∧dX l=dX (l.drop k.toNat)
structure Mx (A:Alg) (F:SF) (H:SH) (l:List Pt) (k:Int) (w:Pt):Prop where
 o1:A.cmp .leq 0 k=true
 no:A.ite (A.not (F.safe w.X 60)) true (A.not (F.safe w.Y 60))=true→false=H.all l
 nx:A.ite (A.not (F.safe w.X 60)) true (A.not (F.safe w.Y 60))=false→ApI l (k+1)
 ad:A.bin .add .i64 k 1=k+1
 ms:((l.length:Int) - (k+1)).toNat < ((l.length:Int) - k).toNat
theorem B9 {l:List Pt} (hn:l.length < 1000000) {k:Int} (hI:ApI l k) (A:Alg) (hA:A=aA) (F:SF) (hF:F=aO) (H:SH) (hH:H=bD) (hb:A.cmp .lss k (A.len l)=true) (w:Pt) (hw:w=A.get l k ⟨⟨⟨false,A.zD⟩,⟨false,A.zD⟩⟩,⟨⟨false,A.zD⟩,⟨false,A.zD⟩⟩⟩):Mx A F H l k w:=by
 subst hA hF hH
 have hb:k < (l.length:Int):=of_decide_eq_true hb
 obtain⟨k0,k1,h⟩:=hI
 have hlt:k.toNat < l.length:=by omega
 have er:w=l[k.toNat]:=by
  rw[hw]
  show(l[k.toNat]?).getD _=_
  rw[List.getElem?_eq_getElem hlt];rfl
 have hd:l.drop k.toNat=w :: l.drop (k+1).toNat:=by
  rw[show(k+1).toNat=k.toNat+1 by omega,List.drop_eq_getElem_cons hlt,er]
 have hal:dX l=(dJ w&&dX (l.drop (k+1).toNat)):=by
  rw[h,hd];rfl
 have hc:aA.ite (aA.not (aO.safe w.X 60)) true (aA.not (aO.safe w.Y 60))= !dJ w:=by
  show(if(!cQ w.X 60)=true then true else !cQ w.Y 60)= !(cQ w.X 60&&cQ w.Y 60)
  cases cQ w.X 60 <;> cases cQ w.Y 60 <;> rfl
 exact {
  o1:=bJ _ rfl _ _ k0
  no:=fun h'=>by
   rw[hc,Bool.not_eq_true'] at h'
   show false=dX l
   rw[hal,h'];rfl
  nx:=fun h'=>by
   rw[hc,Bool.not_eq_false'] at h'
   refine⟨by omega,by omega,?_⟩
   rw[hal,h'];rfl
  ad:=by show aD .add .i64 k 1=k+1;simp only[aD,IntKind.wrap_i64];omega
  ms:=by omega }
theorem B8 {l:List Pt} {k:Int} (hI:ApI l k) (A:Alg) (hA:A=aA) (H:SH) (hH:H=bD) (hb:A.cmp .lss k (A.len l)=false):true=H.all l:=by
 subst hA hH
 have hb: ¬ k < (l.length:Int):=of_decide_eq_false hb
 obtain⟨k0,k1,h⟩:=hI
 rw[List.drop_eq_nil_of_le (by omega)] at h
 exact h.symm
theorem KD:aJ Try.prog 89 (aC [.s .pt] aA (uH aA bD)):=by
 refine aH (un:=⟨false,some [0,2,4,5,6,7,8,20]⟩) tok Aw aL (fn:=Try.f89) ?_
 intro w Wr args bs r hg ho hWr A L k hA hL hk
 obtain⟨F,hF⟩:=exE aO
 obtain⟨H,hH⟩:=exE bD
 obtain⟨M,hM⟩:=exE aZ
 obtain⟨S,hS⟩:=exE aV
 obtain⟨V,hV⟩:=exE aS
 obtain⟨X,hX⟩:=exE bR
 try rw[← hF]
 try rw[← hH]
 try rw[← hM]
 try rw[← hS]
 try rw[← hV]
 try rw[← hX]
 try rw[← hA]
 unfold uH at hg
 split at hg <;> cases hg
 rename_i l
 have hlen:=(aG ho).1
 simp only[aA,aP,decide_eq_true_eq] at hlen
 have hlen:l.length < 1000000:=by omega
 clear ho
 have i0:ApI l 0:=⟨Int.le_refl 0,Int.natCast_nonneg _,rfl⟩
 cbv
 refine hL _ _ _ (aQ (un:=⟨false,some [0,2,4,5,6,7,8,20]⟩) tok Aw aL (fun k:Int=>⟨[(7,⟨[], .c (.s (.int .i64 k))⟩),(6,⟨[], .c (.s (.int .i64 (aA.len l)))⟩),(5,⟨[], .c (.s (.hs 0))⟩)],[(0, .vec false .pt l)],1⟩)
  (fun k=>ApI l k) (fun k=>((l.length:Int) - k).toNat) 0 i0 ?_ (fun _ i hi=>by have:=hWr i hi;simp at this;show i < 1;omega) ?_)
 ·exact⟨⟨⟨rfl,rfl,fun _=>rfl⟩,⟨rfl,rfl,leI (by subst hA;rfl)⟩,⟨rfl,rfl,fun _=>rfl⟩,trivial⟩,⟨aF rfl,trivial⟩,rfl,rfl⟩
 clear i0
 rintro k hI A2 L2 k2 hA2 hL2 hnext hexit hret
 have st:=fun hb:A2.cmp .lss k (A2.len l)=true=>B9 hlen hI A2 hA2 F hF H hH hb _ rfl
 have en:=fun hb:A2.cmp .lss k (A2.len l)=false=>B8 hI A2 hA2 H hH hb
 clear hI
 rw[← hA2, ← hS, ← hV, ← hX, ← hM, ← hF]
 cbv
 repeat' with_reducible first | (intro hb;cbv) | refine UM ?_ ?_
 all_goals first | exact(st hb).o1 | exact hb | skip
 ·rename_i hb0
  have e:=(st hb0).no hb
  apply hret
  clear hexit hnext hret st en
  cbv
  refine hk _ _ (bE.pure rfl fun ρ=>?_)
  subst hH
  exact BH e
 ·rename_i hb0
  refine hnext _ (k+1) ((st hb0).nx hb) (st hb0).ms ?_
  have ead:=(st hb0).ad
  subst hA2
  exact⟨⟨⟨rfl,rfl,leI ead⟩,⟨rfl,rfl,fun _=>rfl⟩,⟨rfl,rfl,fun _=>rfl⟩,trivial⟩,⟨aF rfl,trivial⟩,rfl,rfl⟩
 ·have e:=en hb
  apply hexit
  clear hexit hnext hret st en
  cbv
  refine hk _ _ (bE.pure rfl fun ρ=>?_)
  subst hH
  exact BH e
def tG1 (A:Alg) (S:SW) (V:SV) (X:SX) (M:SM) (F:SF) (H:SH):List (Nat×bU):=(89,aC [.s .pt] A (uH A H)) :: ((RU A S V X M F))
theorem Lu:COK Try.prog (aN (tG1 aA aV aS bR aZ aO bD)):=aB KD (Aw)
def C1 (H:SH):List CV→List Blk→Option LR
 | [.g [.P p]],[]=>some ⟨[], .c (.s (.bool (H.all [p]))),[]⟩
 | _,_=>none
theorem DQ:aJ Try.prog 64 (aC [.v] aA (C1 bD)):=by
 refine aH (un:=⟨false,some [1,2]⟩) tok Lu aL (fn:=Try.f64) ?_
 intro w Wr args bs r hg ho hWr A L k hA hL hk
 obtain⟨F,hF⟩:=exE aO
 obtain⟨H,hH⟩:=exE bD
 obtain⟨M,hM⟩:=exE aZ
 obtain⟨S,hS⟩:=exE aV
 obtain⟨V,hV⟩:=exE aS
 obtain⟨X,hX⟩:=exE bR
 try rw[← hF]
 try rw[← hH]
 try rw[← hM]
 try rw[← hS]
 try rw[← hV]
 try rw[← hX]
 try rw[← hA]
 unfold C1 at hg
 split at hg <;> cases hg
 rename_i p
 have al:A.cmp .lss (A.len [p]) 1000000=true:=bH A hA _ _ (by subst hA;show(1:Int) < 1000000;omega)
 cbv
 repeat' with_reducible first | (intro hb;cbv) | refine UM ?_ ?_
 ·exact al
 refine hk _ _ (bE.pure rfl fun ρ=>?_)
 subst hH
 exact yQ rfl
def tG2 (A:Alg) (S:SW) (V:SV) (X:SX) (M:SM) (F:SF) (H:SH):List (Nat×bU):=(64,aC [.v] A (C1 H)) :: ((tG1 A S V X M F H))
theorem Lv:COK Try.prog (aN (tG2 aA aV aS bR aZ aO bD)):=aB DQ (Lu)
def tG3 (A:Alg) (S:SW) (V:SV) (X:SX) (M:SM) (F:SF) (H:SH):List (Nat×bU):=((tG2 A S V X M F H))
theorem Hp:COK Try.prog (aN (tG3 aA aV aS bR aZ aO bD)):=Lv
def tG4 (A:Alg) (S:SW) (V:SV) (X:SX) (M:SM) (F:SF) (H:SH):List (Nat×bU):=((tG3 A S V X M F H))
theorem Hq:COK Try.prog (aN (tG4 aA aV aS bR aZ aO bD)):=Hp
def CQ (H:SH):List CV→List Blk→Option LR
 | [.g [.P x], .g [.P y]],[]=>some ⟨[], .t [.s (.int .i64 (H.cmp x y)), .s (.bool (H.all [x,y]))],[]⟩
 | _,_=>none
theorem Fl {x y:Pt} (h:dX [x,y]=true):mE x∧mE y:=by
 have h:(dJ x&&(dJ y&&true))=true:=h
 simp only[Bool.and_true,Bool.and_eq_true] at h
 exact⟨e9 h.1,e9 h.2⟩
structure CpF (A:Alg) (F:SF) (H:SH) (x y:Pt):Prop where
 al:A.cmp .lss (A.len [x,y]) 1000000=true
 no:A.not (H.all [x,y])=true→0=H.cmp x y∧false=H.all [x,y]
 c1:A.not (H.all [x,y])=false→A.ite (A.cmp .neq (F.cmp x.X y.X) 0) true (A.not (F.two x.X y.X))=true→F.cmp x.X y.X=H.cmp x y∧F.two x.X y.X=H.all [x,y]
 c0:A.not (H.all [x,y])=false→A.ite (A.cmp .neq (F.cmp x.X y.X) 0) true (A.not (F.two x.X y.X))=false→F.cmp x.Y y.Y=H.cmp x y∧F.two x.Y y.Y=H.all [x,y]
theorem SB (x y:Pt) (A:Alg) (hA:A=aA) (F:SF) (hF:F=aO) (H:SH) (hH:H=bD):CpF A F H x y:=by
 subst hA hF hH
 have key:aA.not (bD.all [x,y])=false→bD.all [x,y]=true∧bD.cmp x y=iQ x y∧(aO.two x.X y.X=true∧aO.cmp x.X y.X=cZ (px x) (px y))∧(aO.two x.Y y.Y=true∧aO.cmp x.Y y.Y=cZ (py x) (py y)):=fun h=>by
  have h:(!dX [x,y])=false:=h
  rw[Bool.not_eq_false'] at h
  obtain⟨hx,hy⟩:=Fl h
  refine⟨h,?_,(Cal.of hx.x).cmp (Cal.of hy.x) (by decide),(Cal.of hx.y).cmp (Cal.of hy.y) (by decide)⟩
  show(if dX [x,y]=true then _ else _)=_
  rw[h];rfl
 refine⟨bH _ rfl _ _ (by show(2:Int) < 1000000;omega),fun h=>?_,fun h h'=>?_,fun h h'=>?_⟩
 ·have h:(!dX [x,y])=true:=h
  rw[Bool.not_eq_true'] at h
  refine⟨?_,h.symm⟩
  show 0=(if dX [x,y]=true then _ else _)
  rw[h];rfl
 ·obtain⟨k1,k2,⟨k3,k4⟩,k5,k6⟩:=key h
  have h':(if(aO.cmp x.X y.X != 0)=true then true else !(aO.two x.X y.X))=true:=h'
  rw[k3] at h'
  rw[k4] at h' ⊢
  rw[k1,k2,k3]
  refine⟨?_,rfl⟩
  unfold iQ
  have:cZ (px x) (px y)≠0:=by simpa using h'
  rw[if_pos this]
 ·obtain⟨k1,k2,⟨k3,k4⟩,k5,k6⟩:=key h
  have h':(if(aO.cmp x.X y.X != 0)=true then true else !(aO.two x.X y.X))=false:=h'
  rw[k3,k4] at h'
  rw[k1,k2,k5,k6]
  refine⟨?_,rfl⟩
  unfold iQ
  have:cZ (px x) (px y)=0:=by simpa using h'
  rw[if_neg (by rw[this];decide)]
theorem yJ:aJ Try.prog 91 (aC [.v, .v] aA (CQ bD)):=by
 refine aH (un:=⟨false,some [2,3,4,5,6,7,12,26]⟩) tok Hq aL (fn:=Try.f91) ?_
 intro w Wr args bs r hg ho hWr A L k hA hL hk
 obtain⟨F,hF⟩:=exE aO
 obtain⟨H,hH⟩:=exE bD
 obtain⟨M,hM⟩:=exE aZ
 obtain⟨S,hS⟩:=exE aV
 obtain⟨V,hV⟩:=exE aS
 obtain⟨X,hX⟩:=exE bR
 try rw[← hF]
 try rw[← hH]
 try rw[← hM]
 try rw[← hS]
 try rw[← hV]
 try rw[← hX]
 try rw[← hA]
 unfold CQ at hg
 split at hg <;> cases hg
 rename_i x y
 have cp:=SB x y A hA F hF H hH
 cbv
 repeat' with_reducible first | (intro hb;cbv) | refine UM ?_ ?_
 ·exact cp.al
 ·have e:=cp.no hb
  refine hk _ _ (bE.pure rfl fun ρ=>?_)
  subst hH
  exact EF e.1 e.2
 ·rename_i h1
  have e:=cp.c1 h1 hb
  refine hk _ _ (bE.pure rfl fun ρ=>?_)
  subst hH hF
  exact BR e.1 e.2
 ·rename_i h1
  have e:=cp.c0 h1 hb
  refine hk _ _ (bE.pure rfl fun ρ=>?_)
  subst hH hF
  exact BR e.1 e.2
def tG5 (A:Alg) (S:SW) (V:SV) (X:SX) (M:SM) (F:SF) (H:SH):List (Nat×bU):=(91,aC [.v, .v] A (CQ H)) :: ((tG4 A S V X M F H))
theorem Lw:COK Try.prog (aN (tG5 aA aV aS bR aZ aO bD)):=aB yJ (Hq)
def tG6 (A:Alg) (S:SW) (V:SV) (X:SX) (M:SM) (F:SF) (H:SH):List (Nat×bU):=((tG5 A S V X M F H))
theorem Lx:COK Try.prog (aN (tG6 aA aV aS bR aZ aO bD)):=Lw
def tG7 (A:Alg) (S:SW) (V:SV) (X:SX) (M:SM) (F:SF) (H:SH):List (Nat×bU):=((tG6 A S V X M F H))
theorem QQ:COK Try.prog (aN (tG7 aA aV aS bR aZ aO bD)):=Lx
end Go.Eng
