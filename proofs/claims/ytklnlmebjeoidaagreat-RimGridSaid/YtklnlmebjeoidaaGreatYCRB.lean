
import Derived.Test.YtklnlmebjeoidaaGreatYCRA
import Derived.Test.YtklnlmebjeoidaaGreatSpecFA
set_option linter.all false
set_option exponentiation.threshold 3000
set_option maxRecDepth 100000
set_option maxHeartbeats 2000000
namespace Go.Eng
open Go.Proofs
def FD (A:Alg) (H:SH):List CV→List Blk→Option LR
 | [.s (.int .i64 x), .s (.int .i64 y)],[]=>some ⟨[A.cmp .leq (-9223372036854775808) x,A.cmp .lss x 9223372036854775808,A.cmp .leq (-9223372036854775808) y,A.cmp .lss y 9223372036854775808], .c (.g [.P (H.at_ x y)]),[]⟩
 | _,_=>none
def uH (A:Alg) (H:SH):List CV→List Blk→Option LR
 | [.s (.hs 0)],[.vec false .pt l]=>some ⟨[A.cmp .lss (A.len l) 1000000], .c (.s (.bool (H.all l))),[]⟩
 | _,_=>none
def ApI (l:List Pt) (k:Int):Prop:=0≤k∧k≤l.length∧dX l=dX (l.drop k.toNat)
structure Mx (A:Alg) (F:SF) (H:SH) (l:List Pt) (k:Int) (w:Pt):Prop where
 o1:A.cmp .leq 0 k=true
 no:A.ite (A.not (F.safe w.X 60)) true (A.not (F.safe w.Y 60))=true→false=H.all l
 nx:A.ite (A.not (F.safe w.X 60)) true (A.not (F.safe w.Y 60))=false→ApI l (k+1)
 ad:A.bin .add .i64 k 1=k+1
 ms:((l.length:Int) - (k+1)).toNat < ((l.length:Int) - k).toNat
theorem B9 {l:List Pt} (hn:l.length < 1000000) {k:Int} (hI:ApI l k) (A:Alg) (hA:A=aA) (F:SF) (hF:F=aO) (H:SH) (hH:H=bD) (hb:A.cmp .lss k (A.len l)=true) (w:Pt) (hw:w=A.get l k ⟨⟨⟨false,A.zD⟩,⟨false,A.zD⟩⟩,⟨⟨false,A.zD⟩,⟨false,A.zD⟩⟩⟩):Mx A F H l k w:=by
 subst hA hF hH
 have hb:k < (l.length:Int):=of_decide_eq_true hb
 obtain⟨k0,k1,h⟩:=hI
 have hlt:k.toNat < l.length:=by omega
 have er:w=l[k.toNat]:=by
  rw[hw]
  show(l[k.toNat]?).getD _=_
  rw[List.getElem?_eq_getElem hlt];rfl
 have hd:l.drop k.toNat=w :: l.drop (k+1).toNat:=by
  rw[show(k+1).toNat=k.toNat+1 by omega,List.drop_eq_getElem_cons hlt,er]
 have hal:dX l=(dJ w&&dX (l.drop (k+1).toNat)):=by
  rw[h,hd];rfl
 have hc:aA.ite (aA.not (aO.safe w.X 60)) true (aA.not (aO.safe w.Y 60))= !dJ w:=by
  show(if(!cQ w.X 60)=true then true else !cQ w.Y 60)= !(cQ w.X 60&&cQ w.Y 60)
  cases cQ w.X 60 <;> cases cQ w.Y 60 <;> rfl
 exact {
  o1:=bJ _ rfl _ _ k0
  no:=fun h'=>by
   rw[hc,Bool.not_eq_true'] at h'
   show false=dX l
   rw[hal,h'];rfl
  nx:=fun h'=>by
   rw[hc,Bool.not_eq_false'] at h'
   refine⟨by omega,by omega,?_⟩
   rw[hal,h'];rfl
  ad:=by show aD .add .i64 k 1=k+1;simp only[aD,IntKind.wrap_i64];omega
  ms:=by omega }
theorem B8 {l:List Pt} {k:Int} (hI:ApI l k) (A:Alg) (hA:A=aA) (H:SH) (hH:H=bD) (hb:A.cmp .lss k (A.len l)=false):true=H.all l:=by
 subst hA hH
 have hb: ¬ k < (l.length:Int):=of_decide_eq_false hb
 obtain⟨k0,k1,h⟩:=hI
 rw[List.drop_eq_nil_of_le (by omega)] at h
 exact h.symm
theorem KD:aJ Tryz.prog 57 (aC [.s .pt] aA (uH aA bD)):=by
 refine aH (un:=⟨false,some [0,2,4,5,6,7,8,20]⟩) tok Aw aL (fn:=Tryz.f57) ?_
 intro w Wr args bs r hg ho hWr A L k hA hL hk
 obtain⟨F,hF⟩:=exE aO
 obtain⟨H,hH⟩:=exE bD
 obtain⟨M,hM⟩:=exE aZ
 obtain⟨S,hS⟩:=exE aV
 obtain⟨V,hV⟩:=exE aS
 obtain⟨X,hX⟩:=exE bR
 try rw[← hF]
 try rw[← hH]
 try rw[← hM]
 try rw[← hS]
 try rw[← hV]
 try rw[← hX]
 try rw[← hA]
 unfold uH at hg
 split at hg <;> cases hg
 rename_i l
 have hlen:=(aG ho).1
 simp only[aA,aP,decide_eq_true_eq] at hlen
 have hlen:l.length < 1000000:=by omega
 clear ho
 have i0:ApI l 0:=⟨Int.le_refl 0,Int.natCast_nonneg _,rfl⟩
 cbv
 refine hL _ _ _ (aQ (un:=⟨false,some [0,2,4,5,6,7,8,20]⟩) tok Aw aL (fun k:Int=>⟨[(7,⟨[], .c (.s (.int .i64 k))⟩),(6,⟨[], .c (.s (.int .i64 (aA.len l)))⟩),(5,⟨[], .c (.s (.hs 0))⟩)],[(0, .vec false .pt l)],1⟩)
  (fun k=>ApI l k) (fun k=>((l.length:Int) - k).toNat) 0 i0 ?_ (fun _ i hi=>by have:=hWr i hi;simp at this;show i < 1;omega) ?_)
 ·exact⟨⟨⟨rfl,rfl,fun _=>rfl⟩,⟨rfl,rfl,leI (by subst hA;rfl)⟩,⟨rfl,rfl,fun _=>rfl⟩,trivial⟩,⟨aF rfl,trivial⟩,rfl,rfl⟩
 clear i0
 rintro k hI A2 L2 k2 hA2 hL2 hnext hexit hret
 have st:=fun hb:A2.cmp .lss k (A2.len l)=true=>B9 hlen hI A2 hA2 F hF H hH hb _ rfl
 have en:=fun hb:A2.cmp .lss k (A2.len l)=false=>B8 hI A2 hA2 H hH hb
 clear hI
 rw[← hA2, ← hS, ← hV, ← hX, ← hM, ← hF]
 cbv
 repeat' with_reducible first | (intro hb;cbv) | refine UM ?_ ?_
 all_goals first | exact(st hb).o1 | exact hb | skip
 ·rename_i hb0
  have e:=(st hb0).no hb
  apply hret
  clear hexit hnext hret st en
  cbv
  refine hk _ _ (bE.pure rfl fun ρ=>?_)
  subst hH
  exact BH e
 ·rename_i hb0
  refine hnext _ (k+1) ((st hb0).nx hb) (st hb0).ms ?_
  have ead:=(st hb0).ad
  subst hA2
  exact⟨⟨⟨rfl,rfl,leI ead⟩,⟨rfl,rfl,fun _=>rfl⟩,⟨rfl,rfl,fun _=>rfl⟩,trivial⟩,⟨aF rfl,trivial⟩,rfl,rfl⟩
 ·have e:=en hb
  apply hexit
  clear hexit hnext hret st en
  cbv
  refine hk _ _ (bE.pure rfl fun ρ=>?_)
  subst hH
  exact BH e
def tG1 (A:Alg) (S:SW) (V:SV) (X:SX) (M:SM) (F:SF) (H:SH):List (Nat×bU):=(57,aC [.s .pt] A (uH A H)) :: ((RU A S V X M F))
theorem Lu:COK Tryz.prog (aN (tG1 aA aV aS bR aZ aO bD)):=aB KD (Aw)
def C1 (H:SH):List CV→List Blk→Option LR
 | [.g [.P p]],[]=>some ⟨[], .c (.s (.bool (H.all [p]))),[]⟩
 | _,_=>none
theorem DQ:aJ Tryz.prog 38 (aC [.v] aA (C1 bD)):=by
 refine aH (un:=⟨false,some [1,2]⟩) tok Lu aL (fn:=Tryz.f38) ?_
 intro w Wr args bs r hg ho hWr A L k hA hL hk
 obtain⟨F,hF⟩:=exE aO
 obtain⟨H,hH⟩:=exE bD
 obtain⟨M,hM⟩:=exE aZ
 obtain⟨S,hS⟩:=exE aV
 obtain⟨V,hV⟩:=exE aS
 obtain⟨X,hX⟩:=exE bR
 try rw[← hF]
 try rw[← hH]
 try rw[← hM]
 try rw[← hS]
 try rw[← hV]
 try rw[← hX]
 try rw[← hA]
 unfold C1 at hg
 split at hg <;> cases hg
 rename_i p
 have al:A.cmp .lss (A.len [p]) 1000000=true:=bH A hA _ _ (by subst hA;show(1:Int) < 1000000;omega)
 cbv
 repeat' with_reducible first | (intro hb;cbv) | refine UM ?_ ?_
 ·exact al
 refine hk _ _ (bE.pure rfl fun ρ=>?_)
 subst hH
 exact yQ rfl
def Da (A:Alg):List CV→List Blk→Option LW
 | [.s (.hp 0 0), .g [.R r], .s (.bool o)],[.fix true [.s (.tt false)]]=>some ⟨[], .c (.g [.R r]),[],[.fix true [.s (.bool (A.not o))]]⟩
 | [.s (.hp 0 0), .g [.R r], .s (.bool o)],[.fix true [.s (.bool b)]]=>some ⟨[], .c (.g [.R r]),[],[.fix true [.s (.bool (A.ite b true (A.not o)))]]⟩
 | _,_=>none
theorem Gn:aJ Tryz.prog 114 (cM [.pw, .v, .v] aA (Da aA)):=by
 refine cT (un:=⟨false,some [0,2,4,6]⟩) tok Lu aL (fn:=Tryz.f114) ?_
 intro w Wr args bs r hg ho hWr A L k hA hL hk
 obtain⟨F,hF⟩:=exE aO
 obtain⟨H,hH⟩:=exE bD
 obtain⟨M,hM⟩:=exE aZ
 obtain⟨S,hS⟩:=exE aV
 obtain⟨V,hV⟩:=exE aS
 obtain⟨X,hX⟩:=exE bR
 try rw[← hF]
 try rw[← hH]
 try rw[← hM]
 try rw[← hS]
 try rw[← hV]
 try rw[← hX]
 try rw[← hA]
 unfold Da at hg
 split at hg
 ·simp only[Option.some.injEq] at hg
  subst hg
  cbv
  subst hA
  exact hk _ _ (iW.one (t:=0) rfl (fun ρ=>yR rfl) rfl rfl rfl (aF rfl))
 ·simp only[Option.some.injEq] at hg
  subst hg
  cbv
  subst hA
  exact hk _ _ (iW.one (t:=0) rfl (fun ρ=>yR rfl) rfl rfl rfl (aF rfl))
 ·cases hg
def tG2 (A:Alg) (S:SW) (V:SV) (X:SX) (M:SM) (F:SF) (H:SH):List (Nat×bU):=(38,aC [.v] A (C1 H)) :: (114,cM [.pw, .v, .v] A (Da A)) :: ((tG1 A S V X M F H))
theorem Lv:COK Tryz.prog (aN (tG2 aA aV aS bR aZ aO bD)):=aB DQ (aB Gn (Lu))
def JO (A:Alg) (F:SF):List CV→List Blk→Option LW
 | [.s (.hp 0 0), .g [.R x], .g [.R y]],[.fix true [.s (.tt false)]]=>some ⟨[], .c (.g [.R (F.sub x y)]),[],[.fix true [.s (.bool (A.not (F.two x y)))]]⟩
 | [.s (.hp 0 0), .g [.R x], .g [.R y]],[.fix true [.s (.bool b)]]=>some ⟨[], .c (.g [.R (F.sub x y)]),[],[.fix true [.s (.bool (A.ite b true (A.not (F.two x y))))]]⟩
 | _,_=>none
theorem KI:aJ Tryz.prog 109 (cM [.pw, .v, .v] aA (JO aA aO)):=by
 refine cT (un:=⟨false,some [0,4,5,6]⟩) tok Lv aL (fn:=Tryz.f109) ?_
 intro w Wr args bs r hg ho hWr A L k hA hL hk
 obtain⟨F,hF⟩:=exE aO
 obtain⟨H,hH⟩:=exE bD
 obtain⟨M,hM⟩:=exE aZ
 obtain⟨S,hS⟩:=exE aV
 obtain⟨V,hV⟩:=exE aS
 obtain⟨X,hX⟩:=exE bR
 try rw[← hF]
 try rw[← hH]
 try rw[← hM]
 try rw[← hS]
 try rw[← hV]
 try rw[← hX]
 try rw[← hA]
 unfold JO at hg
 split at hg
 ·simp only[Option.some.injEq] at hg
  subst hg
  cbv
  subst hA hF
  exact hk _ _ (iW.one (t:=0) rfl (fun ρ=>yR rfl) rfl rfl rfl (aF rfl))
 ·simp only[Option.some.injEq] at hg
  subst hg
  cbv
  subst hA hF
  exact hk _ _ (iW.one (t:=0) rfl (fun ρ=>yR rfl) rfl rfl rfl (aF rfl))
 ·cases hg
def JH (A:Alg) (F:SF):List CV→List Blk→Option LW
 | [.s (.hp 0 0), .g [.R x], .g [.R y]],[.fix true [.s (.tt false)]]=>some ⟨[], .c (.g [.R (F.mul x y)]),[],[.fix true [.s (.bool (A.not (F.two x y)))]]⟩
 | [.s (.hp 0 0), .g [.R x], .g [.R y]],[.fix true [.s (.bool b)]]=>some ⟨[], .c (.g [.R (F.mul x y)]),[],[.fix true [.s (.bool (A.ite b true (A.not (F.two x y))))]]⟩
 | _,_=>none
theorem KH:aJ Tryz.prog 110 (cM [.pw, .v, .v] aA (JH aA aO)):=by
 refine cT (un:=⟨false,some [0,4,5,6]⟩) tok Lv aL (fn:=Tryz.f110) ?_
 intro w Wr args bs r hg ho hWr A L k hA hL hk
 obtain⟨F,hF⟩:=exE aO
 obtain⟨H,hH⟩:=exE bD
 obtain⟨M,hM⟩:=exE aZ
 obtain⟨S,hS⟩:=exE aV
 obtain⟨V,hV⟩:=exE aS
 obtain⟨X,hX⟩:=exE bR
 try rw[← hF]
 try rw[← hH]
 try rw[← hM]
 try rw[← hS]
 try rw[← hV]
 try rw[← hX]
 try rw[← hA]
 unfold JH at hg
 split at hg
 ·simp only[Option.some.injEq] at hg
  subst hg
  cbv
  subst hA hF
  exact hk _ _ (iW.one (t:=0) rfl (fun ρ=>yR rfl) rfl rfl rfl (aF rfl))
 ·simp only[Option.some.injEq] at hg
  subst hg
  cbv
  subst hA hF
  exact hk _ _ (iW.one (t:=0) rfl (fun ρ=>yR rfl) rfl rfl rfl (aF rfl))
 ·cases hg
def tG3 (A:Alg) (S:SW) (V:SV) (X:SX) (M:SM) (F:SF) (H:SH):List (Nat×bU):=(109,cM [.pw, .v, .v] A (JO A F)) :: (110,cM [.pw, .v, .v] A (JH A F)) :: ((tG2 A S V X M F H))
theorem Hp:COK Tryz.prog (aN (tG3 aA aV aS bR aZ aO bD)):=aB KI (aB KH (Lv))
def P2 (A:Alg) (F:SF):List CV→List Blk→Option LW
 | [.s (.hp 0 0), .g [.P x], .g [.P y]],[.fix true [.s (.tt false)]]=>some ⟨[], .c (.g [.P ⟨F.sub y.X x.X,F.sub y.Y x.Y⟩]),[],[.fix true [.s (.bool (A.ite (A.not (F.two y.X x.X)) true (A.not (F.two y.Y x.Y))))]]⟩
 | [.s (.hp 0 0), .g [.P x], .g [.P y]],[.fix true [.s (.bool b)]]=>some ⟨[], .c (.g [.P ⟨F.sub y.X x.X,F.sub y.Y x.Y⟩]),[],[.fix true [.s (.bool (A.ite (A.ite b true (A.not (F.two y.X x.X))) true (A.not (F.two y.Y x.Y))))]]⟩
 | _,_=>none
theorem KJ:aJ Tryz.prog 107 (cM [.pw, .v, .v] aA (P2 aA aO)):=by
 refine cT (un:=⟨false,some [0,4,5,6]⟩) tok Hp aL (fn:=Tryz.f107) ?_
 intro w Wr args bs r hg ho hWr A L k hA hL hk
 obtain⟨F,hF⟩:=exE aO
 obtain⟨H,hH⟩:=exE bD
 obtain⟨M,hM⟩:=exE aZ
 obtain⟨S,hS⟩:=exE aV
 obtain⟨V,hV⟩:=exE aS
 obtain⟨X,hX⟩:=exE bR
 try rw[← hF]
 try rw[← hH]
 try rw[← hM]
 try rw[← hS]
 try rw[← hV]
 try rw[← hX]
 try rw[← hA]
 unfold P2 at hg
 split at hg
 ·simp only[Option.some.injEq] at hg
  subst hg
  cbv
  repeat' with_reducible first | (intro hb;cbv) | refine UM ?_ ?_
  subst hA hF
  exact hk _ _ (iW.one (t:=0) rfl (fun ρ=>Ps rfl) rfl rfl rfl (aF rfl))
 ·simp only[Option.some.injEq] at hg
  subst hg
  cbv
  repeat' with_reducible first | (intro hb;cbv) | refine UM ?_ ?_
  subst hA hF
  exact hk _ _ (iW.one (t:=0) rfl (fun ρ=>Ps rfl) rfl rfl rfl (aF rfl))
 ·cases hg
def Jr (A:Alg) (H:SH):List CV→List Blk→Option LR
 | [.s (.hp 0 0), .g [.R r]],[.fix false [.s (.bool b)]]=>some ⟨[], .t [.g [.R (H.ends b r)], .s (.bool (A.not b))],[]⟩
 | _,_=>none
theorem Gm:aJ Tryz.prog 108 (aC [.p, .v] aA (Jr aA bD)):=by
 refine aH (un:=⟨false,some [0,3,4,5,9]⟩) tok Hp aL (fn:=Tryz.f108) ?_
 intro w Wr args bs r hg ho hWr A L k hA hL hk
 obtain⟨F,hF⟩:=exE aO
 obtain⟨H,hH⟩:=exE bD
 obtain⟨M,hM⟩:=exE aZ
 obtain⟨S,hS⟩:=exE aV
 obtain⟨V,hV⟩:=exE aS
 obtain⟨X,hX⟩:=exE bR
 try rw[← hF]
 try rw[← hH]
 try rw[← hM]
 try rw[← hS]
 try rw[← hV]
 try rw[← hX]
 try rw[← hA]
 unfold Jr at hg
 split at hg <;> cases hg
 rename_i r b
 have h1:b=true→cN=H.ends b r∧false=A.not b:=fun h=>by subst hH hA h;exact⟨rfl,rfl⟩
 have h0:b=false→r=H.ends b r∧true=A.not b:=fun h=>by subst hH hA h;exact⟨rfl,rfl⟩
 cbv
 repeat' with_reducible first | (intro hb;cbv) | refine UM ?_ ?_
 ·have e:=h1 hb
  refine hk _ _ (bE.pure rfl fun ρ=>?_)
  subst hH hA
  exact eP e.1 e.2
 ·have e:=h0 hb
  refine hk _ _ (bE.pure rfl fun ρ=>?_)
  subst hH hA
  exact eP e.1 e.2
def tG4 (A:Alg) (S:SW) (V:SV) (X:SX) (M:SM) (F:SF) (H:SH):List (Nat×bU):=(107,cM [.pw, .v, .v] A (P2 A F)) :: (108,aC [.p, .v] A (Jr A H)) :: ((tG3 A S V X M F H))
theorem Hq:COK Tryz.prog (aN (tG4 aA aV aS bR aZ aO bD)):=aB KJ (aB Gm (Hp))
def CQ (H:SH):List CV→List Blk→Option LR
 | [.g [.P x], .g [.P y]],[]=>some ⟨[], .t [.s (.int .i64 (H.cmp x y)), .s (.bool (H.all [x,y]))],[]⟩
 | _,_=>none
theorem Fl {x y:Pt} (h:dX [x,y]=true):mE x∧mE y:=by
 have h:(dJ x&&(dJ y&&true))=true:=h
 simp only[Bool.and_true,Bool.and_eq_true] at h
 exact⟨e9 h.1,e9 h.2⟩
theorem fV {x y z:Pt} (h:dX [x,y,z]=true):mE x∧mE y∧mE z:=by
 have h:(dJ x&&(dJ y&&(dJ z&&true)))=true:=h
 simp only[Bool.and_true,Bool.and_eq_true] at h
 exact⟨e9 h.1,e9 h.2.1,e9 h.2.2⟩
structure CpF (A:Alg) (F:SF) (H:SH) (x y:Pt):Prop where
 al:A.cmp .lss (A.len [x,y]) 1000000=true
 no:A.not (H.all [x,y])=true→0=H.cmp x y∧false=H.all [x,y]
 c1:A.not (H.all [x,y])=false→A.ite (A.cmp .neq (F.cmp x.X y.X) 0) true (A.not (F.two x.X y.X))=true→F.cmp x.X y.X=H.cmp x y∧F.two x.X y.X=H.all [x,y]
 c0:A.not (H.all [x,y])=false→A.ite (A.cmp .neq (F.cmp x.X y.X) 0) true (A.not (F.two x.X y.X))=false→F.cmp x.Y y.Y=H.cmp x y∧F.two x.Y y.Y=H.all [x,y]
theorem SB (x y:Pt) (A:Alg) (hA:A=aA) (F:SF) (hF:F=aO) (H:SH) (hH:H=bD):CpF A F H x y:=by
 subst hA hF hH
 have key:aA.not (bD.all [x,y])=false→bD.all [x,y]=true∧bD.cmp x y=iQ x y∧(aO.two x.X y.X=true∧aO.cmp x.X y.X=cZ (px x) (px y))∧(aO.two x.Y y.Y=true∧aO.cmp x.Y y.Y=cZ (py x) (py y)):=fun h=>by
  have h:(!dX [x,y])=false:=h
  rw[Bool.not_eq_false'] at h
  obtain⟨hx,hy⟩:=Fl h
  refine⟨h,?_,(Cal.of hx.x).cmp (Cal.of hy.x) (by decide),(Cal.of hx.y).cmp (Cal.of hy.y) (by decide)⟩
  show(if dX [x,y]=true then _ else _)=_
  rw[h];rfl
 refine⟨bH _ rfl _ _ (by show(2:Int) < 1000000;omega),fun h=>?_,fun h h'=>?_,fun h h'=>?_⟩
 ·have h:(!dX [x,y])=true:=h
  rw[Bool.not_eq_true'] at h
  refine⟨?_,h.symm⟩
  show 0=(if dX [x,y]=true then _ else _)
  rw[h];rfl
 ·obtain⟨k1,k2,⟨k3,k4⟩,k5,k6⟩:=key h
  have h':(if(aO.cmp x.X y.X != 0)=true then true else !(aO.two x.X y.X))=true:=h'
  rw[k3] at h'
  rw[k4] at h' ⊢
  rw[k1,k2,k3]
  refine⟨?_,rfl⟩
  unfold iQ
  have:cZ (px x) (px y)≠0:=by simpa using h'
  rw[if_pos this]
 ·obtain⟨k1,k2,⟨k3,k4⟩,k5,k6⟩:=key h
  have h':(if(aO.cmp x.X y.X != 0)=true then true else !(aO.two x.X y.X))=false:=h'
  rw[k3,k4] at h'
  rw[k1,k2,k5,k6]
  refine⟨?_,rfl⟩
  unfold iQ
  have:cZ (px x) (px y)=0:=by simpa using h'
  rw[if_neg (by rw[this];decide)]
theorem yJ:aJ Tryz.prog 70 (aC [.v, .v] aA (CQ bD)):=by
 refine aH (un:=⟨false,some [2,3,4,5,6,7,12,26]⟩) tok Hq aL (fn:=Tryz.f70) ?_
 intro w Wr args bs r hg ho hWr A L k hA hL hk
 obtain⟨F,hF⟩:=exE aO
 obtain⟨H,hH⟩:=exE bD
 obtain⟨M,hM⟩:=exE aZ
 obtain⟨S,hS⟩:=exE aV
 obtain⟨V,hV⟩:=exE aS
 obtain⟨X,hX⟩:=exE bR
 try rw[← hF]
 try rw[← hH]
 try rw[← hM]
 try rw[← hS]
 try rw[← hV]
 try rw[← hX]
 try rw[← hA]
 unfold CQ at hg
 split at hg <;> cases hg
 rename_i x y
 have cp:=SB x y A hA F hF H hH
 cbv
 repeat' with_reducible first | (intro hb;cbv) | refine UM ?_ ?_
 ·exact cp.al
 ·have e:=cp.no hb
  refine hk _ _ (bE.pure rfl fun ρ=>?_)
  subst hH
  exact EF e.1 e.2
 ·rename_i h1
  have e:=cp.c1 h1 hb
  refine hk _ _ (bE.pure rfl fun ρ=>?_)
  subst hH hF
  exact BR e.1 e.2
 ·rename_i h1
  have e:=cp.c0 h1 hb
  refine hk _ _ (bE.pure rfl fun ρ=>?_)
  subst hH hF
  exact BR e.1 e.2
def CR (H:SH):List CV→List Blk→Option LR
 | [.g [.P x], .g [.P y], .g [.P z]],[]=>some ⟨[], .t [.g [.R (H.cross x y z)], .s (.bool (H.all [x,y,z]))],[]⟩
 | _,_=>none
def AC (A:Alg) (F:SF) (x y z:Pt):Bool:=A.ite (A.ite (A.ite (A.not (F.two y.X x.X)) true (A.not (F.two y.Y x.Y))) true (A.not (F.two z.X x.X))) true (A.not (F.two z.Y x.Y))
def pG (A:Alg) (F:SF) (x y z:Pt):Bool:=A.ite (A.ite (A.ite (AC A F x y z) true (A.not (F.two (F.sub y.X x.X) (F.sub z.Y x.Y)))) true (A.not (F.two (F.sub y.Y x.Y) (F.sub z.X x.X)))) true (A.not (F.two (F.mul (F.sub y.X x.X) (F.sub z.Y x.Y)) (F.mul (F.sub y.Y x.Y) (F.sub z.X x.X))))
def zJ (A:Alg) (F:SF) (x y z:Pt):Bool:=A.ite (A.ite (A.ite (AC A F x y z) true (A.not (F.two (F.sub y.X x.X) (F.sub z.X x.X)))) true (A.not (F.two (F.sub y.Y x.Y) (F.sub z.Y x.Y)))) true (A.not (F.two (F.mul (F.sub y.X x.X) (F.sub z.X x.X)) (F.mul (F.sub y.Y x.Y) (F.sub z.Y x.Y))))
structure CrF (A:Alg) (F:SF) (H:SH) (x y z:Pt):Prop where
 al:A.cmp .lss (A.len [x,y,z]) 1000000=true
 no:A.not (H.all [x,y,z])=true→cN=H.cross x y z∧cN=H.dot x y z∧false=H.all [x,y,z]
 cr:A.not (H.all [x,y,z])=false→H.ends (pG A F x y z) (F.sub (F.mul (F.sub y.X x.X) (F.sub z.Y x.Y)) (F.mul (F.sub y.Y x.Y) (F.sub z.X x.X)))=H.cross x y z∧A.not (pG A F x y z)=H.all [x,y,z]
 dt:A.not (H.all [x,y,z])=false→H.ends (zJ A F x y z) (F.add (F.mul (F.sub y.X x.X) (F.sub z.X x.X)) (F.mul (F.sub y.Y x.Y) (F.sub z.Y x.Y)))=H.dot x y z∧A.not (zJ A F x y z)=H.all [x,y,z]
theorem RF (x y z:Pt) (A:Alg) (hA:A=aA) (F:SF) (hF:F=aO) (H:SH) (hH:H=bD):CrF A F H x y z:=by
 subst hA hF hH
 have key:aA.not (bD.all [x,y,z])=false→(bD.all [x,y,z]=true)∧mE x∧mE y∧mE z:=fun h=>by
  have h:(!dX [x,y,z])=false:=h
  rw[Bool.not_eq_false'] at h
  exact⟨h,fV h⟩
 refine⟨bH _ rfl _ _ (by show(3:Int) < 1000000;omega),fun h=>?_,fun h=>?_,fun h=>?_⟩
 ·have h:(!dX [x,y,z])=true:=h
  rw[Bool.not_eq_true'] at h
  refine⟨?_,?_,h.symm⟩
  ·show cN=(if dX [x,y,z]=true then _ else _)
   rw[h];rfl
  ·show cN=(if dX [x,y,z]=true then _ else _)
   rw[h];rfl
 ·obtain⟨ha,hx,hy,hz⟩:=key h
  obtain⟨a1,a2⟩:=(Cal.of hy.x).sub (Cal.of hx.x) (by decide)
  obtain⟨b1,b2⟩:=(Cal.of hy.y).sub (Cal.of hx.y) (by decide)
  obtain⟨c1,c2⟩:=(Cal.of hz.x).sub (Cal.of hx.x) (by decide)
  obtain⟨d1,d2⟩:=(Cal.of hz.y).sub (Cal.of hx.y) (by decide)
  obtain⟨e1,e2⟩:=a2.mul d2 (by decide)
  obtain⟨f1,f2⟩:=b2.mul c2 (by decide)
  obtain⟨g1,g2⟩:=e2.sub f2 (by decide)
  have hbad:pG aA aO x y z=false:=by
   unfold pG AC
   rw[a1,b1,c1,d1,e1,f1,g1];rfl
  rw[hbad,ha]
  refine⟨?_,rfl⟩
  show aO.sub _ _=(if dX [x,y,z]=true then ofQ (bB x y z) else cN)
  rw[show dX [x,y,z]=true from ha,if_pos rfl,g2.eq]
  rfl
 ·obtain⟨ha,hx,hy,hz⟩:=key h
  obtain⟨a1,a2⟩:=(Cal.of hy.x).sub (Cal.of hx.x) (by decide)
  obtain⟨b1,b2⟩:=(Cal.of hy.y).sub (Cal.of hx.y) (by decide)
  obtain⟨c1,c2⟩:=(Cal.of hz.x).sub (Cal.of hx.x) (by decide)
  obtain⟨d1,d2⟩:=(Cal.of hz.y).sub (Cal.of hx.y) (by decide)
  obtain⟨e1,e2⟩:=a2.mul c2 (by decide)
  obtain⟨f1,f2⟩:=b2.mul d2 (by decide)
  obtain⟨g1,g2⟩:=e2.add f2 (by decide)
  have hbad:zJ aA aO x y z=false:=by
   unfold zJ AC
   rw[a1,b1,c1,d1,e1,f1,g1];rfl
  rw[hbad,ha]
  refine⟨?_,rfl⟩
  show aO.add _ _=(if dX [x,y,z]=true then ofQ (gY x y z) else cN)
  rw[show dX [x,y,z]=true from ha,if_pos rfl,g2.eq]
  rfl
theorem DP:aJ Tryz.prog 95 (aC [.v, .v, .v] aA (CR bD)):=by
 refine aH (un:=⟨false,some [3,4,5,6,7,8,9,10,16]⟩) tok Hq aL (fn:=Tryz.f95) ?_
 intro w Wr args bs r hg ho hWr A L k hA hL hk
 obtain⟨F,hF⟩:=exE aO
 obtain⟨H,hH⟩:=exE bD
 obtain⟨M,hM⟩:=exE aZ
 obtain⟨S,hS⟩:=exE aV
 obtain⟨V,hV⟩:=exE aS
 obtain⟨X,hX⟩:=exE bR
 try rw[← hF]
 try rw[← hH]
 try rw[← hM]
 try rw[← hS]
 try rw[← hV]
 try rw[← hX]
 try rw[← hA]
 unfold CR at hg
 split at hg <;> cases hg
 rename_i x y z
 have cr:=RF x y z A hA F hF H hH
 cbv
 repeat' with_reducible first | (intro hb;cbv) | refine UM ?_ ?_
 ·exact cr.al
 ·have e:=cr.no hb
  refine hk _ _ (bE.pure rfl fun ρ=>?_)
  subst hH
  exact eP e.1 e.2.2
 ·have e:=cr.cr hb
  refine hk _ _ (bE.pure rfl fun ρ=>?_)
  subst hH hF hA
  exact xA e.1 e.2
def tG5 (A:Alg) (S:SW) (V:SV) (X:SX) (M:SM) (F:SF) (H:SH):List (Nat×bU):=(70,aC [.v, .v] A (CQ H)) :: (95,aC [.v, .v, .v] A (CR H)) :: ((tG4 A S V X M F H))
theorem Lw:COK Tryz.prog (aN (tG5 aA aV aS bR aZ aO bD)):=aB yJ (aB DP (Hq))
def FI (H:SH):List CV→List Blk→Option LR
 | [.g [.P x], .g [.P y], .g [.P z]],[]=>some ⟨[], .t [.s (.int .i64 (H.turn x y z)), .s (.bool (H.all [x,y,z]))],[]⟩
 | _,_=>none
structure TuF (A:Alg) (F:SF) (H:SH) (x y z:Pt):Prop where
 no:A.not (H.all [x,y,z])=true→0=H.turn x y z∧false=H.all [x,y,z]
 yes:A.not (H.all [x,y,z])=false→F.sign (H.cross x y z)=H.turn x y z∧true=H.all [x,y,z]
theorem Eo {x y z:Pt} (h:dX [x,y,z]=true):SmQ 485 (bB x y z)∧SmQ 485 (gY x y z):=by
 obtain⟨hx,hy,hz⟩:=fV h
 obtain⟨a1,a2⟩:=(Cal.of hy.x).sub (Cal.of hx.x) (by decide)
 obtain⟨b1,b2⟩:=(Cal.of hy.y).sub (Cal.of hx.y) (by decide)
 obtain⟨c1,c2⟩:=(Cal.of hz.x).sub (Cal.of hx.x) (by decide)
 obtain⟨d1,d2⟩:=(Cal.of hz.y).sub (Cal.of hx.y) (by decide)
 exact⟨((a2.mul d2 (by decide)).2.sub (b2.mul c2 (by decide)).2 (by decide)).2.sm,((a2.mul c2 (by decide)).2.add (b2.mul d2 (by decide)).2 (by decide)).2.sm⟩
theorem Tb (x y z:Pt) (A:Alg) (hA:A=aA) (F:SF) (hF:F=aO) (H:SH) (hH:H=bD):TuF A F H x y z:=by
 subst hA hF hH
 refine⟨fun h=>?_,fun h=>?_⟩
 ·have h:(!dX [x,y,z])=true:=h
  rw[Bool.not_eq_true'] at h
  refine⟨?_,h.symm⟩
  show 0=(if dX [x,y,z]=true then _ else _)
  rw[h];rfl
 ·have h:(!dX [x,y,z])=false:=h
  rw[Bool.not_eq_false'] at h
  refine⟨?_,h.symm⟩
  show aO.sign (if dX [x,y,z]=true then ofQ (bB x y z) else cN)=(if dX [x,y,z]=true then cZ (bB x y z) 0 else 0)
  rw[h]
  exact(Cal.q (Eo h).1 (by decide)).sign
theorem z8:aJ Tryz.prog 81 (aC [.v, .v, .v] aA (FI bD)):=by
 refine aH (un:=⟨false,some [3,4,5,6,7,8,9,18]⟩) tok Lw aL (fn:=Tryz.f81) ?_
 intro w Wr args bs r hg ho hWr A L k hA hL hk
 obtain⟨F,hF⟩:=exE aO
 obtain⟨H,hH⟩:=exE bD
 obtain⟨M,hM⟩:=exE aZ
 obtain⟨S,hS⟩:=exE aV
 obtain⟨V,hV⟩:=exE aS
 obtain⟨X,hX⟩:=exE bR
 try rw[← hF]
 try rw[← hH]
 try rw[← hM]
 try rw[← hS]
 try rw[← hV]
 try rw[← hX]
 try rw[← hA]
 unfold FI at hg
 split at hg <;> cases hg
 rename_i x y z
 have tu:=Tb x y z A hA F hF H hH
 cbv
 repeat' with_reducible first | (intro hb;cbv) | refine UM ?_ ?_
 ·have e:=tu.no hb
  refine hk _ _ (bE.pure rfl fun ρ=>?_)
  subst hH
  exact EF e.1 e.2
 ·have e:=tu.yes hb
  refine hk _ _ (bE.pure rfl fun ρ=>?_)
  subst hH hF
  exact EE e.1 e.2
def PQ (H:SH):List CV→List Blk→Option LR
 | [.g [.P x], .g [.P y]],[]=>some ⟨[], .t [.g [.R (H.dot x y y)], .s (.bool (H.all [x,y,y]))],[]⟩
 | _,_=>none
def tG6 (A:Alg) (S:SW) (V:SV) (X:SX) (M:SM) (F:SF) (H:SH):List (Nat×bU):=(81,aC [.v, .v, .v] A (FI H)) :: ((tG5 A S V X M F H))
theorem Lx:COK Tryz.prog (aN (tG6 aA aV aS bR aZ aO bD)):=aB z8 (Lw)
def tG7 (A:Alg) (S:SW) (V:SV) (X:SX) (M:SM) (F:SF) (H:SH):List (Nat×bU):=((tG6 A S V X M F H))
theorem QQ:COK Tryz.prog (aN (tG7 aA aV aS bR aZ aO bD)):=Lx
end Go.Eng
