
import Derived.Test.YtbfknjpggfkgjaaGreatYCRA
import Derived.Test.YtbfknjpggfkgjaaGreatSpecFA
set_option linter.all false
set_option exponentiation.threshold 3000
set_option maxRecDepth 100000
set_option maxHeartbeats 2000000
namespace Go.Eng
open Go.Proofs
def FD (A:Alg) (H:SH):List CV→List Blk→Option LR
 | [.s (.int .i64 x), .s (.int .i64 y)],[]=>some ⟨[A.cmp .leq (-9223372036854775808) x,A.cmp .lss x 9223372036854775808,A.cmp .leq (-9223372036854775808) y,A.cmp .lss y 9223372036854775808], .c (.g [.P (H.at_ x y)]),[]⟩
 | _,_=>none
def uH (A:Alg) (H:SH):List CV→List Blk→Option LR
 | [.s (.hs 0)],[.vec false .pt l]=>some ⟨[A.cmp .lss (A.len l) 1000000], .c (.s (.bool (H.all l))),[]⟩
 | _,_=>none
def ApI (l:List Pt) (k:Int):Prop:=0≤k∧k≤l.length∧dX l=dX (l.drop k.toNat)
structure Mx (A:Alg) (F:SF) (H:SH) (l:List Pt) (k:Int) (w:Pt):Prop where
 o1:A.cmp .leq 0 k=true
 no:A.ite (A.not (F.safe w.X 60)) true (A.not (F.safe w.Y 60))=true→false=H.all l
 nx:A.ite (A.not (F.safe w.X 60)) true (A.not (F.safe w.Y 60))=false→ApI l (k+1)
 ad:A.bin .add .i64 k 1=k+1
 ms:((l.length:Int) - (k+1)).toNat < ((l.length:Int) - k).toNat
theorem B9 {l:List Pt} (hn:l.length < 1000000) {k:Int} (hI:ApI l k) (A:Alg) (hA:A=aA) (F:SF) (hF:F=aO) (H:SH) (hH:H=bD) (hb:A.cmp .lss k (A.len l)=true) (w:Pt) (hw:w=A.get l k ⟨⟨⟨false,A.zD⟩,⟨false,A.zD⟩⟩,⟨⟨false,A.zD⟩,⟨false,A.zD⟩⟩⟩):Mx A F H l k w:=by
 subst hA hF hH
 have hb:k < (l.length:Int):=of_decide_eq_true hb
 obtain⟨k0,k1,h⟩:=hI
 have hlt:k.toNat < l.length:=by omega
 have er:w=l[k.toNat]:=by
  rw[hw]
  show(l[k.toNat]?).getD _=_
  rw[List.getElem?_eq_getElem hlt];rfl
 have hd:l.drop k.toNat=w :: l.drop (k+1).toNat:=by
  rw[show(k+1).toNat=k.toNat+1 by omega,List.drop_eq_getElem_cons hlt,er]
 have hal:dX l=(dJ w&&dX (l.drop (k+1).toNat)):=by
  rw[h,hd];rfl
 have hc:aA.ite (aA.not (aO.safe w.X 60)) true (aA.not (aO.safe w.Y 60))= !dJ w:=by
  show(if(!cQ w.X 60)=true then true else !cQ w.Y 60)= !(cQ w.X 60&&cQ w.Y 60)
  cases cQ w.X 60 <;> cases cQ w.Y 60 <;> rfl
 exact {
  o1:=bJ _ rfl _ _ k0
  no:=fun h'=>by
   rw[hc,Bool.not_eq_true'] at h'
   show false=dX l
   rw[hal,h'];rfl
  nx:=fun h'=>by
   rw[hc,Bool.not_eq_false'] at h'
   refine⟨by omega,by omega,?_⟩
   rw[hal,h'];rfl
  ad:=by show aD .add .i64 k 1=k+1;simp only[aD,IntKind.wrap_i64];omega
  ms:=by omega }
theorem B8 {l:List Pt} {k:Int} (hI:ApI l k) (A:Alg) (hA:A=aA) (H:SH) (hH:H=bD) (hb:A.cmp .lss k (A.len l)=false):true=H.all l:=by
 subst hA hH
 have hb: ¬ k < (l.length:Int):=of_decide_eq_false hb
 obtain⟨k0,k1,h⟩:=hI
 rw[List.drop_eq_nil_of_le (by omega)] at h
 exact h.symm
theorem KD:aJ Tryz.prog 121 (aC [.s .pt] aA (uH aA bD)):=by
 refine aH (un:=⟨false,some [0,2,4,5,6,7,8,20]⟩) tok Aw aL (fn:=Tryz.f121) ?_
 intro w Wr args bs r hg ho hWr A L k hA hL hk
 obtain⟨F,hF⟩:=exE aO
 obtain⟨H,hH⟩:=exE bD
 obtain⟨M,hM⟩:=exE aZ
 obtain⟨S,hS⟩:=exE aV
 obtain⟨V,hV⟩:=exE aS
 obtain⟨X,hX⟩:=exE bR
 try rw[← hF]
 try rw[← hH]
 try rw[← hM]
 try rw[← hS]
 try rw[← hV]
 try rw[← hX]
 try rw[← hA]
 unfold uH at hg
 split at hg <;> cases hg
 rename_i l
 have hlen:=(aG ho).1
 simp only[aA,aP,decide_eq_true_eq] at hlen
 have hlen:l.length < 1000000:=by omega
 clear ho
 have i0:ApI l 0:=⟨Int.le_refl 0,Int.natCast_nonneg _,rfl⟩
 cbv
 refine hL _ _ _ (aQ (un:=⟨false,some [0,2,4,5,6,7,8,20]⟩) tok Aw aL (fun k:Int=>⟨[(7,⟨[], .c (.s (.int .i64 k))⟩),(6,⟨[], .c (.s (.int .i64 (aA.len l)))⟩),(5,⟨[], .c (.s (.hs 0))⟩)],[(0, .vec false .pt l)],1⟩)
  (fun k=>ApI l k) (fun k=>((l.length:Int) - k).toNat) 0 i0 ?_ (fun _ i hi=>by have:=hWr i hi;simp at this;show i < 1;omega) ?_)
 ·exact⟨⟨⟨rfl,rfl,fun _=>rfl⟩,⟨rfl,rfl,leI (by subst hA;rfl)⟩,⟨rfl,rfl,fun _=>rfl⟩,trivial⟩,⟨aF rfl,trivial⟩,rfl,rfl⟩
 clear i0
 rintro k hI A2 L2 k2 hA2 hL2 hnext hexit hret
 have st:=fun hb:A2.cmp .lss k (A2.len l)=true=>B9 hlen hI A2 hA2 F hF H hH hb _ rfl
 have en:=fun hb:A2.cmp .lss k (A2.len l)=false=>B8 hI A2 hA2 H hH hb
 clear hI
 rw[← hA2, ← hS, ← hV, ← hX, ← hM, ← hF]
 cbv
 repeat' with_reducible first | (intro hb;cbv) | refine UM ?_ ?_
 all_goals first | exact(st hb).o1 | exact hb | skip
 ·rename_i hb0
  have e:=(st hb0).no hb
  apply hret
  clear hexit hnext hret st en
  cbv
  refine hk _ _ (bE.pure rfl fun ρ=>?_)
  subst hH
  exact BH e
 ·rename_i hb0
  refine hnext _ (k+1) ((st hb0).nx hb) (st hb0).ms ?_
  have ead:=(st hb0).ad
  subst hA2
  exact⟨⟨⟨rfl,rfl,leI ead⟩,⟨rfl,rfl,fun _=>rfl⟩,⟨rfl,rfl,fun _=>rfl⟩,trivial⟩,⟨aF rfl,trivial⟩,rfl,rfl⟩
 ·have e:=en hb
  apply hexit
  clear hexit hnext hret st en
  cbv
  refine hk _ _ (bE.pure rfl fun ρ=>?_)
  subst hH
  exact BH e
def tG1 (A:Alg) (S:SW) (V:SV) (X:SX) (M:SM) (F:SF) (H:SH):List (Nat×bU):=(121,aC [.s .pt] A (uH A H)) :: ((RU A S V X M F))
theorem Lu:COK Tryz.prog (aN (tG1 aA aV aS bR aZ aO bD)):=aB KD (Aw)
def C1 (H:SH):List CV→List Blk→Option LR
 | [.g [.P p]],[]=>some ⟨[], .c (.s (.bool (H.all [p]))),[]⟩
 | _,_=>none
theorem DQ:aJ Tryz.prog 80 (aC [.v] aA (C1 bD)):=by
 refine aH (un:=⟨false,some [1,2]⟩) tok Lu aL (fn:=Tryz.f80) ?_
 intro w Wr args bs r hg ho hWr A L k hA hL hk
 obtain⟨F,hF⟩:=exE aO
 obtain⟨H,hH⟩:=exE bD
 obtain⟨M,hM⟩:=exE aZ
 obtain⟨S,hS⟩:=exE aV
 obtain⟨V,hV⟩:=exE aS
 obtain⟨X,hX⟩:=exE bR
 try rw[← hF]
 try rw[← hH]
 try rw[← hM]
 try rw[← hS]
 try rw[← hV]
 try rw[← hX]
 try rw[← hA]
 unfold C1 at hg
 split at hg <;> cases hg
 rename_i p
 have al:A.cmp .lss (A.len [p]) 1000000=true:=bH A hA _ _ (by subst hA;show(1:Int) < 1000000;omega)
 cbv
 repeat' with_reducible first | (intro hb;cbv) | refine UM ?_ ?_
 ·exact al
 refine hk _ _ (bE.pure rfl fun ρ=>?_)
 subst hH
 exact yQ rfl
def Da (A:Alg):List CV→List Blk→Option LW
 | [.s (.hp 0 0), .g [.R r], .s (.bool o)],[.fix true [.s (.tt false)]]=>some ⟨[], .c (.g [.R r]),[],[.fix true [.s (.bool (A.not o))]]⟩
 | [.s (.hp 0 0), .g [.R r], .s (.bool o)],[.fix true [.s (.bool b)]]=>some ⟨[], .c (.g [.R r]),[],[.fix true [.s (.bool (A.ite b true (A.not o)))]]⟩
 | _,_=>none
theorem Gn:aJ Tryz.prog 123 (cM [.pw, .v, .v] aA (Da aA)):=by
 refine cT (un:=⟨false,some [0,2,4,6]⟩) tok Lu aL (fn:=Tryz.f123) ?_
 intro w Wr args bs r hg ho hWr A L k hA hL hk
 obtain⟨F,hF⟩:=exE aO
 obtain⟨H,hH⟩:=exE bD
 obtain⟨M,hM⟩:=exE aZ
 obtain⟨S,hS⟩:=exE aV
 obtain⟨V,hV⟩:=exE aS
 obtain⟨X,hX⟩:=exE bR
 try rw[← hF]
 try rw[← hH]
 try rw[← hM]
 try rw[← hS]
 try rw[← hV]
 try rw[← hX]
 try rw[← hA]
 unfold Da at hg
 split at hg
 ·simp only[Option.some.injEq] at hg
  subst hg
  cbv
  subst hA
  exact hk _ _ (iW.one (t:=0) rfl (fun ρ=>yR rfl) rfl rfl rfl (aF rfl))
 ·simp only[Option.some.injEq] at hg
  subst hg
  cbv
  subst hA
  exact hk _ _ (iW.one (t:=0) rfl (fun ρ=>yR rfl) rfl rfl rfl (aF rfl))
 ·cases hg
def tG2 (A:Alg) (S:SW) (V:SV) (X:SX) (M:SM) (F:SF) (H:SH):List (Nat×bU):=(80,aC [.v] A (C1 H)) :: (123,cM [.pw, .v, .v] A (Da A)) :: ((tG1 A S V X M F H))
theorem Lv:COK Tryz.prog (aN (tG2 aA aV aS bR aZ aO bD)):=aB DQ (aB Gn (Lu))
def JO (A:Alg) (F:SF):List CV→List Blk→Option LW
 | [.s (.hp 0 0), .g [.R x], .g [.R y]],[.fix true [.s (.tt false)]]=>some ⟨[], .c (.g [.R (F.sub x y)]),[],[.fix true [.s (.bool (A.not (F.two x y)))]]⟩
 | [.s (.hp 0 0), .g [.R x], .g [.R y]],[.fix true [.s (.bool b)]]=>some ⟨[], .c (.g [.R (F.sub x y)]),[],[.fix true [.s (.bool (A.ite b true (A.not (F.two x y))))]]⟩
 | _,_=>none
theorem KI:aJ Tryz.prog 228 (cM [.pw, .v, .v] aA (JO aA aO)):=by
 refine cT (un:=⟨false,some [0,4,5,6]⟩) tok Lv aL (fn:=Tryz.f228) ?_
 intro w Wr args bs r hg ho hWr A L k hA hL hk
 obtain⟨F,hF⟩:=exE aO
 obtain⟨H,hH⟩:=exE bD
 obtain⟨M,hM⟩:=exE aZ
 obtain⟨S,hS⟩:=exE aV
 obtain⟨V,hV⟩:=exE aS
 obtain⟨X,hX⟩:=exE bR
 try rw[← hF]
 try rw[← hH]
 try rw[← hM]
 try rw[← hS]
 try rw[← hV]
 try rw[← hX]
 try rw[← hA]
 unfold JO at hg
 split at hg
 ·simp only[Option.some.injEq] at hg
  subst hg
  cbv
  subst hA hF
  exact hk _ _ (iW.one (t:=0) rfl (fun ρ=>yR rfl) rfl rfl rfl (aF rfl))
 ·simp only[Option.some.injEq] at hg
  subst hg
  cbv
  subst hA hF
  exact hk _ _ (iW.one (t:=0) rfl (fun ρ=>yR rfl) rfl rfl rfl (aF rfl))
 ·cases hg
def JH (A:Alg) (F:SF):List CV→List Blk→Option LW
 | [.s (.hp 0 0), .g [.R x], .g [.R y]],[.fix true [.s (.tt false)]]=>some ⟨[], .c (.g [.R (F.mul x y)]),[],[.fix true [.s (.bool (A.not (F.two x y)))]]⟩
 | [.s (.hp 0 0), .g [.R x], .g [.R y]],[.fix true [.s (.bool b)]]=>some ⟨[], .c (.g [.R (F.mul x y)]),[],[.fix true [.s (.bool (A.ite b true (A.not (F.two x y))))]]⟩
 | _,_=>none
theorem KH:aJ Tryz.prog 229 (cM [.pw, .v, .v] aA (JH aA aO)):=by
 refine cT (un:=⟨false,some [0,4,5,6]⟩) tok Lv aL (fn:=Tryz.f229) ?_
 intro w Wr args bs r hg ho hWr A L k hA hL hk
 obtain⟨F,hF⟩:=exE aO
 obtain⟨H,hH⟩:=exE bD
 obtain⟨M,hM⟩:=exE aZ
 obtain⟨S,hS⟩:=exE aV
 obtain⟨V,hV⟩:=exE aS
 obtain⟨X,hX⟩:=exE bR
 try rw[← hF]
 try rw[← hH]
 try rw[← hM]
 try rw[← hS]
 try rw[← hV]
 try rw[← hX]
 try rw[← hA]
 unfold JH at hg
 split at hg
 ·simp only[Option.some.injEq] at hg
  subst hg
  cbv
  subst hA hF
  exact hk _ _ (iW.one (t:=0) rfl (fun ρ=>yR rfl) rfl rfl rfl (aF rfl))
 ·simp only[Option.some.injEq] at hg
  subst hg
  cbv
  subst hA hF
  exact hk _ _ (iW.one (t:=0) rfl (fun ρ=>yR rfl) rfl rfl rfl (aF rfl))
 ·cases hg
def tG3 (A:Alg) (S:SW) (V:SV) (X:SX) (M:SM) (F:SF) (H:SH):List (Nat×bU):=(228,cM [.pw, .v, .v] A (JO A F)) :: (229,cM [.pw, .v, .v] A (JH A F)) :: ((tG2 A S V X M F H))
theorem Hp:COK Tryz.prog (aN (tG3 aA aV aS bR aZ aO bD)):=aB KI (aB KH (Lv))
def P2 (A:Alg) (F:SF):List CV→List Blk→Option LW
 | [.s (.hp 0 0), .g [.P x], .g [.P y]],[.fix true [.s (.tt false)]]=>some ⟨[], .c (.g [.P ⟨F.sub y.X x.X,F.sub y.Y x.Y⟩]),[],[.fix true [.s (.bool (A.ite (A.not (F.two y.X x.X)) true (A.not (F.two y.Y x.Y))))]]⟩
 | [.s (.hp 0 0), .g [.P x], .g [.P y]],[.fix true [.s (.bool b)]]=>some ⟨[], .c (.g [.P ⟨F.sub y.X x.X,F.sub y.Y x.Y⟩]),[],[.fix true [.s (.bool (A.ite (A.ite b true (A.not (F.two y.X x.X))) true (A.not (F.two y.Y x.Y))))]]⟩
 | _,_=>none
theorem KJ:aJ Tryz.prog 226 (cM [.pw, .v, .v] aA (P2 aA aO)):=by
 refine cT (un:=⟨false,some [0,4,5,6]⟩) tok Hp aL (fn:=Tryz.f226) ?_
 intro w Wr args bs r hg ho hWr A L k hA hL hk
 obtain⟨F,hF⟩:=exE aO
 obtain⟨H,hH⟩:=exE bD
 obtain⟨M,hM⟩:=exE aZ
 obtain⟨S,hS⟩:=exE aV
 obtain⟨V,hV⟩:=exE aS
 obtain⟨X,hX⟩:=exE bR
 try rw[← hF]
 try rw[← hH]
 try rw[← hM]
 try rw[← hS]
 try rw[← hV]
 try rw[← hX]
 try rw[← hA]
 unfold P2 at hg
 split at hg
 ·simp only[Option.some.injEq] at hg
  subst hg
  cbv
  repeat' with_reducible first | (intro hb;cbv) | refine UM ?_ ?_
  subst hA hF
  exact hk _ _ (iW.one (t:=0) rfl (fun ρ=>Ps rfl) rfl rfl rfl (aF rfl))
 ·simp only[Option.some.injEq] at hg
  subst hg
  cbv
  repeat' with_reducible first | (intro hb;cbv) | refine UM ?_ ?_
  subst hA hF
  exact hk _ _ (iW.one (t:=0) rfl (fun ρ=>Ps rfl) rfl rfl rfl (aF rfl))
 ·cases hg
def Jr (A:Alg) (H:SH):List CV→List Blk→Option LR
 | [.s (.hp 0 0), .g [.R r]],[.fix false [.s (.bool b)]]=>some ⟨[], .t [.g [.R (H.ends b r)], .s (.bool (A.not b))],[]⟩
 | _,_=>none
theorem Gm:aJ Tryz.prog 227 (aC [.p, .v] aA (Jr aA bD)):=by
 refine aH (un:=⟨false,some [0,3,4,5,9]⟩) tok Hp aL (fn:=Tryz.f227) ?_
 intro w Wr args bs r hg ho hWr A L k hA hL hk
 obtain⟨F,hF⟩:=exE aO
 obtain⟨H,hH⟩:=exE bD
 obtain⟨M,hM⟩:=exE aZ
 obtain⟨S,hS⟩:=exE aV
 obtain⟨V,hV⟩:=exE aS
 obtain⟨X,hX⟩:=exE bR
 try rw[← hF]
 try rw[← hH]
 try rw[← hM]
 try rw[← hS]
 try rw[← hV]
 try rw[← hX]
 try rw[← hA]
 unfold Jr at hg
 split at hg <;> cases hg
 rename_i r b
 have h1:b=true→cN=H.ends b r∧false=A.not b:=fun h=>by subst hH hA h;exact⟨rfl,rfl⟩
 have h0:b=false→r=H.ends b r∧true=A.not b:=fun h=>by subst hH hA h;exact⟨rfl,rfl⟩
 cbv
 repeat' with_reducible first | (intro hb;cbv) | refine UM ?_ ?_
 ·have e:=h1 hb
  refine hk _ _ (bE.pure rfl fun ρ=>?_)
  subst hH hA
  exact kP e.1 e.2
 ·have e:=h0 hb
  refine hk _ _ (bE.pure rfl fun ρ=>?_)
  subst hH hA
  exact kP e.1 e.2
def tG4 (A:Alg) (S:SW) (V:SV) (X:SX) (M:SM) (F:SF) (H:SH):List (Nat×bU):=(226,cM [.pw, .v, .v] A (P2 A F)) :: (227,aC [.p, .v] A (Jr A H)) :: ((tG3 A S V X M F H))
theorem Hq:COK Tryz.prog (aN (tG4 aA aV aS bR aZ aO bD)):=aB KJ (aB Gm (Hp))
def CQ (H:SH):List CV→List Blk→Option LR
 | [.g [.P x], .g [.P y]],[]=>some ⟨[], .t [.s (.int .i64 (H.cmp x y)), .s (.bool (H.all [x,y]))],[]⟩
 | _,_=>none
theorem Fl {x y:Pt} (h:dX [x,y]=true):mE x∧mE y:=by
 have h:(dJ x&&(dJ y&&true))=true:=h
 simp only[Bool.and_true,Bool.and_eq_true] at h
 exact⟨e9 h.1,e9 h.2⟩
theorem fV {x y z:Pt} (h:dX [x,y,z]=true):mE x∧mE y∧mE z:=by
 have h:(dJ x&&(dJ y&&(dJ z&&true)))=true:=h
 simp only[Bool.and_true,Bool.and_eq_true] at h
 exact⟨e9 h.1,e9 h.2.1,e9 h.2.2⟩
structure CpF (A:Alg) (F:SF) (H:SH) (x y:Pt):Prop where
 al:A.cmp .lss (A.len [x,y]) 1000000=true
 no:A.not (H.all [x,y])=true→0=H.cmp x y∧false=H.all [x,y]
 c1:A.not (H.all [x,y])=false→A.ite (A.cmp .neq (F.cmp x.X y.X) 0) true (A.not (F.two x.X y.X))=true→F.cmp x.X y.X=H.cmp x y∧F.two x.X y.X=H.all [x,y]
 c0:A.not (H.all [x,y])=false→A.ite (A.cmp .neq (F.cmp x.X y.X) 0) true (A.not (F.two x.X y.X))=false→F.cmp x.Y y.Y=H.cmp x y∧F.two x.Y y.Y=H.all [x,y]
theorem SB (x y:Pt) (A:Alg) (hA:A=aA) (F:SF) (hF:F=aO) (H:SH) (hH:H=bD):CpF A F H x y:=by
 subst hA hF hH
 have key:aA.not (bD.all [x,y])=false→bD.all [x,y]=true∧bD.cmp x y=iQ x y∧(aO.two x.X y.X=true∧aO.cmp x.X y.X=cZ (px x) (px y))∧(aO.two x.Y y.Y=true∧aO.cmp x.Y y.Y=cZ (py x) (py y)):=fun h=>by
  have h:(!dX [x,y])=false:=h
  rw[Bool.not_eq_false'] at h
  obtain⟨hx,hy⟩:=Fl h
  refine⟨h,?_,(Cal.of hx.x).cmp (Cal.of hy.x) (by decide),(Cal.of hx.y).cmp (Cal.of hy.y) (by decide)⟩
  show(if dX [x,y]=true then _ else _)=_
  rw[h];rfl
 refine⟨bH _ rfl _ _ (by show(2:Int) < 1000000;omega),fun h=>?_,fun h h'=>?_,fun h h'=>?_⟩
 ·have h:(!dX [x,y])=true:=h
  rw[Bool.not_eq_true'] at h
  refine⟨?_,h.symm⟩
  show 0=(if dX [x,y]=true then _ else _)
  rw[h];rfl
 ·obtain⟨k1,k2,⟨k3,k4⟩,k5,k6⟩:=key h
  have h':(if(aO.cmp x.X y.X != 0)=true then true else !(aO.two x.X y.X))=true:=h'
  rw[k3] at h'
  rw[k4] at h' ⊢
  rw[k1,k2,k3]
  refine⟨?_,rfl⟩
  unfold iQ
  have:cZ (px x) (px y)≠0:=by simpa using h'
  rw[if_pos this]
 ·obtain⟨k1,k2,⟨k3,k4⟩,k5,k6⟩:=key h
  have h':(if(aO.cmp x.X y.X != 0)=true then true else !(aO.two x.X y.X))=false:=h'
  rw[k3,k4] at h'
  rw[k1,k2,k5,k6]
  refine⟨?_,rfl⟩
  unfold iQ
  have:cZ (px x) (px y)=0:=by simpa using h'
  rw[if_neg (by rw[this];decide)]
theorem yJ:aJ Tryz.prog 128 (aC [.v, .v] aA (CQ bD)):=by
 refine aH (un:=⟨false,some [2,3,4,5,6,7,12,26]⟩) tok Hq aL (fn:=Tryz.f128) ?_
 intro w Wr args bs r hg ho hWr A L k hA hL hk
 obtain⟨F,hF⟩:=exE aO
 obtain⟨H,hH⟩:=exE bD
 obtain⟨M,hM⟩:=exE aZ
 obtain⟨S,hS⟩:=exE aV
 obtain⟨V,hV⟩:=exE aS
 obtain⟨X,hX⟩:=exE bR
 try rw[← hF]
 try rw[← hH]
 try rw[← hM]
 try rw[← hS]
 try rw[← hV]
 try rw[← hX]
 try rw[← hA]
 unfold CQ at hg
 split at hg <;> cases hg
 rename_i x y
 have cp:=SB x y A hA F hF H hH
 cbv
 repeat' with_reducible first | (intro hb;cbv) | refine UM ?_ ?_
 ·exact cp.al
 ·have e:=cp.no hb
  refine hk _ _ (bE.pure rfl fun ρ=>?_)
  subst hH
  exact EF e.1 e.2
 ·rename_i h1
  have e:=cp.c1 h1 hb
  refine hk _ _ (bE.pure rfl fun ρ=>?_)
  subst hH hF
  exact BR e.1 e.2
 ·rename_i h1
  have e:=cp.c0 h1 hb
  refine hk _ _ (bE.pure rfl fun ρ=>?_)
  subst hH hF
  exact BR e.1 e.2
def CR (H:SH):List CV→List Blk→Option LR
 | [.g [.P x], .g [.P y], .g [.P z]],[]=>some ⟨[], .t [.g [.R (H.cross x y z)], .s (.bool (H.all [x,y,z]))],[]⟩
 | _,_=>none
def AC (A:Alg) (F:SF) (x y z:Pt):Bool:=A.ite (A.ite (A.ite (A.not (F.two y.X x.X)) true (A.not (F.two y.Y x.Y))) true (A.not (F.two z.X x.X))) true (A.not (F.two z.Y x.Y))
def pG (A:Alg) (F:SF) (x y z:Pt):Bool:=A.ite (A.ite (A.ite (AC A F x y z) true (A.not (F.two (F.sub y.X x.X) (F.sub z.Y x.Y)))) true (A.not (F.two (F.sub y.Y x.Y) (F.sub z.X x.X)))) true (A.not (F.two (F.mul (F.sub y.X x.X) (F.sub z.Y x.Y)) (F.mul (F.sub y.Y x.Y) (F.sub z.X x.X))))
def zJ (A:Alg) (F:SF) (x y z:Pt):Bool:=A.ite (A.ite (A.ite (AC A F x y z) true (A.not (F.two (F.sub y.X x.X) (F.sub z.X x.X)))) true (A.not (F.two (F.sub y.Y x.Y) (F.sub z.Y x.Y)))) true (A.not (F.two (F.mul (F.sub y.X x.X) (F.sub z.X x.X)) (F.mul (F.sub y.Y x.Y) (F.sub z.Y x.Y))))
structure CrF (A:Alg) (F:SF) (H:SH) (x y z:Pt):Prop where
 al:A.cmp .lss (A.len [x,y,z]) 1000000=true
 no:A.not (H.all [x,y,z])=true→cN=H.cross x y z∧cN=H.dot x y z∧false=H.all [x,y,z]
 cr:A.not (H.all [x,y,z])=false→H.ends (pG A F x y z) (F.sub (F.mul (F.sub y.X x.X) (F.sub z.Y x.Y)) (F.mul (F.sub y.Y x.Y) (F.sub z.X x.X)))=H.cross x y z∧A.not (pG A F x y z)=H.all [x,y,z]
 dt:A.not (H.all [x,y,z])=false→H.ends (zJ A F x y z) (F.add (F.mul (F.sub y.X x.X) (F.sub z.X x.X)) (F.mul (F.sub y.Y x.Y) (F.sub z.Y x.Y)))=H.dot x y z∧A.not (zJ A F x y z)=H.all [x,y,z]
theorem RF (x y z:Pt) (A:Alg) (hA:A=aA) (F:SF) (hF:F=aO) (H:SH) (hH:H=bD):CrF A F H x y z:=by
 subst hA hF hH
 have key:aA.not (bD.all [x,y,z])=false→(bD.all [x,y,z]=true)∧mE x∧mE y∧mE z:=fun h=>by
  have h:(!dX [x,y,z])=false:=h
  rw[Bool.not_eq_false'] at h
  exact⟨h,fV h⟩
 refine⟨bH _ rfl _ _ (by show(3:Int) < 1000000;omega),fun h=>?_,fun h=>?_,fun h=>?_⟩
 ·have h:(!dX [x,y,z])=true:=h
  rw[Bool.not_eq_true'] at h
  refine⟨?_,?_,h.symm⟩
  ·show cN=(if dX [x,y,z]=true then _ else _)
   rw[h];rfl
  ·show cN=(if dX [x,y,z]=true then _ else _)
   rw[h];rfl
 ·obtain⟨ha,hx,hy,hz⟩:=key h
  obtain⟨a1,a2⟩:=(Cal.of hy.x).sub (Cal.of hx.x) (by decide)
  obtain⟨b1,b2⟩:=(Cal.of hy.y).sub (Cal.of hx.y) (by decide)
  obtain⟨c1,c2⟩:=(Cal.of hz.x).sub (Cal.of hx.x) (by decide)
  obtain⟨d1,d2⟩:=(Cal.of hz.y).sub (Cal.of hx.y) (by decide)
  obtain⟨e1,e2⟩:=a2.mul d2 (by decide)
  obtain⟨f1,f2⟩:=b2.mul c2 (by decide)
  obtain⟨g1,g2⟩:=e2.sub f2 (by decide)
  have hbad:pG aA aO x y z=false:=by
   unfold pG AC
   rw[a1,b1,c1,d1,e1,f1,g1];rfl
  rw[hbad,ha]
  refine⟨?_,rfl⟩
  show aO.sub _ _=(if dX [x,y,z]=true then ofQ (bB x y z) else cN)
  rw[show dX [x,y,z]=true from ha,if_pos rfl,g2.eq]
  rfl
 ·obtain⟨ha,hx,hy,hz⟩:=key h
  obtain⟨a1,a2⟩:=(Cal.of hy.x).sub (Cal.of hx.x) (by decide)
  obtain⟨b1,b2⟩:=(Cal.of hy.y).sub (Cal.of hx.y) (by decide)
  obtain⟨c1,c2⟩:=(Cal.of hz.x).sub (Cal.of hx.x) (by decide)
  obtain⟨d1,d2⟩:=(Cal.of hz.y).sub (Cal.of hx.y) (by decide)
  obtain⟨e1,e2⟩:=a2.mul c2 (by decide)
  obtain⟨f1,f2⟩:=b2.mul d2 (by decide)
  obtain⟨g1,g2⟩:=e2.add f2 (by decide)
  have hbad:zJ aA aO x y z=false:=by
   unfold zJ AC
   rw[a1,b1,c1,d1,e1,f1,g1];rfl
  rw[hbad,ha]
  refine⟨?_,rfl⟩
  show aO.add _ _=(if dX [x,y,z]=true then ofQ (gY x y z) else cN)
  rw[show dX [x,y,z]=true from ha,if_pos rfl,g2.eq]
  rfl
theorem DP:aJ Tryz.prog 225 (aC [.v, .v, .v] aA (CR bD)):=by
 refine aH (un:=⟨false,some [3,4,5,6,7,8,9,10,16]⟩) tok Hq aL (fn:=Tryz.f225) ?_
 intro w Wr args bs r hg ho hWr A L k hA hL hk
 obtain⟨F,hF⟩:=exE aO
 obtain⟨H,hH⟩:=exE bD
 obtain⟨M,hM⟩:=exE aZ
 obtain⟨S,hS⟩:=exE aV
 obtain⟨V,hV⟩:=exE aS
 obtain⟨X,hX⟩:=exE bR
 try rw[← hF]
 try rw[← hH]
 try rw[← hM]
 try rw[← hS]
 try rw[← hV]
 try rw[← hX]
 try rw[← hA]
 unfold CR at hg
 split at hg <;> cases hg
 rename_i x y z
 have cr:=RF x y z A hA F hF H hH
 cbv
 repeat' with_reducible first | (intro hb;cbv) | refine UM ?_ ?_
 ·exact cr.al
 ·have e:=cr.no hb
  refine hk _ _ (bE.pure rfl fun ρ=>?_)
  subst hH
  exact kP e.1 e.2.2
 ·have e:=cr.cr hb
  refine hk _ _ (bE.pure rfl fun ρ=>?_)
  subst hH hF hA
  exact xA e.1 e.2
def tG5 (A:Alg) (S:SW) (V:SV) (X:SX) (M:SM) (F:SF) (H:SH):List (Nat×bU):=(128,aC [.v, .v] A (CQ H)) :: (225,aC [.v, .v, .v] A (CR H)) :: ((tG4 A S V X M F H))
theorem Lw:COK Tryz.prog (aN (tG5 aA aV aS bR aZ aO bD)):=aB yJ (aB DP (Hq))
def FI (H:SH):List CV→List Blk→Option LR
 | [.g [.P x], .g [.P y], .g [.P z]],[]=>some ⟨[], .t [.s (.int .i64 (H.turn x y z)), .s (.bool (H.all [x,y,z]))],[]⟩
 | _,_=>none
structure TuF (A:Alg) (F:SF) (H:SH) (x y z:Pt):Prop where
 no:A.not (H.all [x,y,z])=true→0=H.turn x y z∧false=H.all [x,y,z]
 yes:A.not (H.all [x,y,z])=false→F.sign (H.cross x y z)=H.turn x y z∧true=H.all [x,y,z]
theorem Eo {x y z:Pt} (h:dX [x,y,z]=true):SmQ 485 (bB x y z)∧SmQ 485 (gY x y z):=by
 obtain⟨hx,hy,hz⟩:=fV h
 obtain⟨a1,a2⟩:=(Cal.of hy.x).sub (Cal.of hx.x) (by decide)
 obtain⟨b1,b2⟩:=(Cal.of hy.y).sub (Cal.of hx.y) (by decide)
 obtain⟨c1,c2⟩:=(Cal.of hz.x).sub (Cal.of hx.x) (by decide)
 obtain⟨d1,d2⟩:=(Cal.of hz.y).sub (Cal.of hx.y) (by decide)
 exact⟨((a2.mul d2 (by decide)).2.sub (b2.mul c2 (by decide)).2 (by decide)).2.sm,((a2.mul c2 (by decide)).2.add (b2.mul d2 (by decide)).2 (by decide)).2.sm⟩
theorem Tb (x y z:Pt) (A:Alg) (hA:A=aA) (F:SF) (hF:F=aO) (H:SH) (hH:H=bD):TuF A F H x y z:=by
 subst hA hF hH
 refine⟨fun h=>?_,fun h=>?_⟩
 ·have h:(!dX [x,y,z])=true:=h
  rw[Bool.not_eq_true'] at h
  refine⟨?_,h.symm⟩
  show 0=(if dX [x,y,z]=true then _ else _)
  rw[h];rfl
 ·have h:(!dX [x,y,z])=false:=h
  rw[Bool.not_eq_false'] at h
  refine⟨?_,h.symm⟩
  show aO.sign (if dX [x,y,z]=true then ofQ (bB x y z) else cN)=(if dX [x,y,z]=true then cZ (bB x y z) 0 else 0)
  rw[h]
  exact(Cal.q (Eo h).1 (by decide)).sign
theorem z8:aJ Tryz.prog 224 (aC [.v, .v, .v] aA (FI bD)):=by
 refine aH (un:=⟨false,some [3,4,5,6,7,8,9,18]⟩) tok Lw aL (fn:=Tryz.f224) ?_
 intro w Wr args bs r hg ho hWr A L k hA hL hk
 obtain⟨F,hF⟩:=exE aO
 obtain⟨H,hH⟩:=exE bD
 obtain⟨M,hM⟩:=exE aZ
 obtain⟨S,hS⟩:=exE aV
 obtain⟨V,hV⟩:=exE aS
 obtain⟨X,hX⟩:=exE bR
 try rw[← hF]
 try rw[← hH]
 try rw[← hM]
 try rw[← hS]
 try rw[← hV]
 try rw[← hX]
 try rw[← hA]
 unfold FI at hg
 split at hg <;> cases hg
 rename_i x y z
 have tu:=Tb x y z A hA F hF H hH
 cbv
 repeat' with_reducible first | (intro hb;cbv) | refine UM ?_ ?_
 ·have e:=tu.no hb
  refine hk _ _ (bE.pure rfl fun ρ=>?_)
  subst hH
  exact EF e.1 e.2
 ·have e:=tu.yes hb
  refine hk _ _ (bE.pure rfl fun ρ=>?_)
  subst hH hF
  exact EE e.1 e.2
def tG6 (A:Alg) (S:SW) (V:SV) (X:SX) (M:SM) (F:SF) (H:SH):List (Nat×bU):=(224,aC [.v, .v, .v] A (FI H)) :: ((tG5 A S V X M F H))
theorem Lx:COK Tryz.prog (aN (tG6 aA aV aS bR aZ aO bD)):=aB z8 (Lw)
def PW (A:Alg) (H:SH):List CV→List Blk→Option LR
 | [.s (.hs 0)],[.vec false .pt l]=>some ⟨[A.cmp .lss (A.len l) 1000000], .t [.g [.P (H.mid l)], .s (.bool (H.midOK l))],[]⟩
 | _,_=>none
theorem OX {ρ:Rho} {f:Nat→Nat} {a c:Pt} {b d:Bool} (h1:a=c) (h2:b=d):(XV.t [.g [.P a], .s (.tt b)]).den ρ=((XV.t [.g [.P c], .s (.bool d)]).ren f).den ρ:=by subst h1 h2;rfl
theorem Cal.add2 {a b:Rt} {p q:Rat} {j k:Nat} (ha:Cal a p j) (hb:Cal b q k) (hj:j≤500) (hk:k≤500):aO.two a b=true∧Cal (aO.add a b) (p+q) (j+k+1):=by
 have h2:dK a b=true:=tM ha.s hb.s hj hk
 refine⟨h2,?_⟩
 have e:aO.add a b=ofQ (p+q):=by show(if dK a b=true then _ else _)=_;rw[h2,ha.v,hb.v];rfl
 rw[e]
 refine Cal.q ?_ (by omega)
 rw[← ha.v, ← hb.v, ← lG ha.s.is hb.s.is]
 have s1:Sm (j+k) (aK a.N*aK b.D):=ha.s.n.mul hb.s.d
 have s2:Sm (j+k) (aK b.N*aK a.D):=by rw[Nat.add_comm];exact hb.s.n.mul ha.s.d
 have s3:Sm (j+k) (aK a.D*aK b.D):=ha.s.d.mul hb.s.d
 exact SmQ.div (s1.add s2) (s3.mono (by omega)) (amP ha.s.is.p hb.s.is.p)
theorem Ev: ∀ (l:List Rt) (a:Rt) (q:Rat) (k:Nat),Cal a q k→k+61*l.length≤500→(∀ r,r∈l→l6 r 60)→(w9 a l).2=true∧Cal (w9 a l).1 (q+Hk (l.map bI)) (k+61*l.length)
 | [],a,q,k,ha,_,_=>by
  refine⟨rfl,?_⟩
  rw[show q+Hk (([]:List Rt).map bI)=q from Rat.add_zero q]
  exact ha
 | w :: r,a,q,k,ha,h5,hs=>by
  rw[List.length_cons] at h5 ⊢
  obtain⟨h2,hc⟩:=ha.add2 (Cal.of (hs w (List.mem_cons_self ..))) (by omega) (by decide)
  have h2':dK a w=true:=h2
  have e:w9 a (w :: r)=w9 (aO.add a w) r:=by
   rw[w9,h2']
   show w9 _ r=w9 (if dK a w=true then _ else _) r
   rw[h2'];rfl
  obtain⟨i1,i2⟩:=Ev r (aO.add a w) (q+bI w) (k+60+1) hc (by omega) (fun x hx=>hs x (List.mem_cons_of_mem _ hx))
  rw[e]
  refine⟨i1,?_⟩
  have hq:q+Hk ((w :: r).map bI)=q+bI w+Hk (r.map bI):=by
   show q+(bI w+Hk (r.map bI))=_
   rw[Rat.add_assoc]
  rw[hq]
  exact i2.mono (by omega)
theorem H9 {l:List Rt} (hl:l.length≤4) (hs: ∀ r,r∈l→l6 r 60):aO.sumOK l=true∧Cal (aO.sum l) (Hk (l.map bI)) 245:=by
 have h0:Cal (⟨anH,aV.from64 1⟩:Rt) (0:Rat) 1:=by
  have h:=Cal.int (k:=1) (z:=0) (by show(0:Int).natAbs < 2 ^ 1;decide) (by decide) (by decide)
  have e:(⟨anH,aV.from64 1⟩:Rt)=ofQ ((0:Int):Rat):=(q8 (x:=0) (by show(0:Int).natAbs < 2 ^ 64;decide)).2.2
  rw[e]
  exact h
 obtain⟨h1,h2⟩:=Ev l _ _ _ h0 (by omega) hs
 rw[Rat.zero_add] at h2
 exact⟨h1,h2.mono (by omega)⟩
theorem y9 {l:List Pt} (h:dX l=true) {p:Pt} (hp:p∈l):mE p:=e9 (List.all_eq_true.1 h p hp)
structure MdI (l:List Pt) (k:Int) (M N:List Rt):Prop where
 k0:0≤k
 k1:k≤l.length
 m:M=(l.take k.toNat).map Pt.X
 n:N=(l.take k.toNat).map Pt.Y
structure MI (A:Alg) (l:List Pt) (k:Int) (M N:List Rt) (w:Pt):Prop where
 o1:A.cmp .leq 0 k=true
 o2:A.cmp .leq (A.iadd (A.len M) (A.len [w.X])) 1000000=true
 o3:A.cmp .leq (A.iadd (A.len N) (A.len [w.Y])) 1000000=true
 nx:MdI l (k+1) (A.app M [w.X]) (A.app N [w.Y])
 ad:A.bin .add .i64 k 1=k+1
 ms:((l.length:Int) - (k+1)).toNat < ((l.length:Int) - k).toNat
theorem auD {l:List Pt} (hn:l.length < 1000000) {k:Int} {M N:List Rt} (hI:MdI l k M N) (A:Alg) (hA:A=aA) (hb:A.cmp .lss k (A.len l)=true) (w:Pt) (hw:w=A.get l k ⟨⟨⟨false,A.zD⟩,⟨false,A.zD⟩⟩,⟨⟨false,A.zD⟩,⟨false,A.zD⟩⟩⟩):MI A l k M N w:=by
 subst hA
 have hb:k < (l.length:Int):=of_decide_eq_true hb
 obtain⟨k0,k1,hm,hN⟩:=hI
 have hlt:k.toNat < l.length:=by omega
 have er:w=l[k.toNat]:=by
  rw[hw]
  show(l[k.toNat]?).getD _=_
  rw[List.getElem?_eq_getElem hlt];rfl
 have ht:l.take (k+1).toNat=l.take k.toNat++[w]:=by
  rw[show(k+1).toNat=k.toNat+1 by omega,List.take_succ_eq_append_getElem hlt,er]
 have lm:M.length=k.toNat:=by rw[hm,List.length_map,List.length_take];omega
 have ln:N.length=k.toNat:=by rw[hN,List.length_map,List.length_take];omega
 exact {
  o1:=bJ _ rfl _ _ k0
  o2:=bJ _ rfl _ _ (by show(M.length:Int)+(1:Nat)≤1000000;omega)
  o3:=bJ _ rfl _ _ (by show(N.length:Int)+(1:Nat)≤1000000;omega)
  nx:=by
   refine⟨by omega,by omega,?_,?_⟩
   ·show M++[w.X]=_
    rw[ht,List.map_append,hm];rfl
   ·show N++[w.Y]=_
    rw[ht,List.map_append,hN];rfl
  ad:=by show aD .add .i64 k 1=k+1;simp only[aD,IntKind.wrap_i64];omega
  ms:=by omega }
def Ns (A:Alg) (H:SH) (l:List Pt):Bool:=A.ite (A.ite (A.cmp .eql (A.len l) 0) true (A.cmp .gtr (A.len l) 4)) true (A.not (H.all l))
def Dx (A:Alg) (F:SF) (xs ys:List Rt) (n:Rt):Bool:=A.ite (A.ite (A.ite (A.not (F.sumOK xs)) true (A.not (F.sumOK ys))) true (A.not (F.divOK (F.sum xs) n))) true (A.not (F.divOK (F.sum ys) n))
structure Pw (A:Alg) (S:SW) (F:SF) (H:SH) (l:List Pt) (M N:List Rt):Prop where
 o1:A.cmp .leq (-9223372036854775808) (A.len l)=true
 o2:A.cmp .lss (A.len l) 9223372036854775808=true
 o3:A.cmp .leq (-9223372036854775808) 1=true
 o4:A.cmp .lss 1 9223372036854775808=true
 o5:A.cmp .lss (A.len M) 1000000=true
 o6:A.cmp .lss (A.len N) 1000000=true
 b:Dx A F M N (F.new (S.from64 (A.len l)) (S.from64 1))=false
 r:(⟨F.div (F.sum M) (F.new (S.from64 (A.len l)) (S.from64 1)),F.div (F.sum N) (F.new (S.from64 (A.len l)) (S.from64 1))⟩:Pt)=H.mid l∧true=H.midOK l
theorem Nt (l:List Pt):Ns aA bD l= !J7 l:=by
 unfold Ns J7
 show(if(if((l.length:Int) == 0)=true then true else decide ((l.length:Int) > 4))=true then true else !dX l)=_
 have h0:((l.length:Int) == 0)= !decide (l.length≠0):=by
  by_cases h:l.length=0 <;> simp[h]
 have h1:decide ((l.length:Int) > 4)= !decide (l.length≤4):=by
  by_cases h:l.length≤4
  ·rw[decide_eq_true h,decide_eq_false (by omega)];rfl
  ·rw[decide_eq_false h,decide_eq_true (by omega)];rfl
 rw[h0,h1]
 cases decide (l.length≠0) <;> cases decide (l.length≤4) <;> cases dX l <;> rfl
theorem Np {l:List Pt} {k:Int} {M N:List Rt} (hI:MdI l k M N) (A:Alg) (hA:A=aA) (S:SW) (hS:S=aV) (F:SF) (hF:F=aO) (H:SH) (hH:H=bD) (hc:Ns A H l=false) (hb:A.cmp .lss k (A.len l)=false):Pw A S F H l M N:=by
 subst hA hS hF hH
 have hb: ¬ k < (l.length:Int):=of_decide_eq_false hb
 obtain⟨k0,k1,hm,hN⟩:=hI
 rw[List.take_of_length_le (by omega)] at hm hN
 rw[Nt,Bool.not_eq_false'] at hc
 have hc':=hc
 unfold J7 at hc'
 simp only[Bool.and_eq_true,decide_eq_true_eq] at hc'
 obtain⟨c1,c2,c3⟩:=hc'
 have lm:M.length=l.length:=by rw[hm,List.length_map]
 have ln:N.length=l.length:=by rw[hN,List.length_map]
 obtain⟨x1,x2⟩:=H9 (l:=M) (by omega) (fun r hr=>by rw[hm] at hr;obtain⟨p,hp,rfl⟩:=List.mem_map.1 hr;exact(y9 c3 hp).x)
 obtain⟨y1,y2⟩:=H9 (l:=N) (by omega) (fun r hr=>by rw[hN] at hr;obtain⟨p,hp,rfl⟩:=List.mem_map.1 hr;exact(y9 c3 hp).y)
 have e0:aA.len l=(l.length:Int):=rfl
 have hz:Sm 3 (l.length:Int):=by show(l.length:Int).natAbs < 2 ^ 3;omega
 have en:aO.new (aV.from64 (aA.len l)) (aV.from64 1)=ofQ (((l.length:Int)):Rat):=(q8 (hz.mono (by decide))).1
 have cn:Cal (ofQ (((l.length:Int)):Rat)) (((l.length:Int)):Rat) 245:=(Cal.int hz (by decide) (by decide)).mono (by decide)
 have n0:(((l.length:Int)):Rat)≠0:=fun h=>by
  have:=Rat.intCast_eq_zero_iff.1 h
  omega
 obtain⟨dx1,dx2⟩:=x2.div cn (by decide) n0
 obtain⟨dy1,dy2⟩:=y2.div cn (by decide) n0
 have mx:M.map bI=l.map px:=by rw[hm,List.map_map];rfl
 have my:N.map bI=l.map py:=by rw[hN,List.map_map];rfl
 exact {
  o1:=bJ _ rfl _ _ (by rw[e0];omega)
  o2:=bH _ rfl _ _ (by rw[e0];omega)
  o3:=bJ _ rfl _ _ (by omega)
  o4:=bH _ rfl _ _ (by omega)
  o5:=bH _ rfl _ _ (by show(M.length:Int) < 1000000;omega)
  o6:=bH _ rfl _ _ (by show(N.length:Int) < 1000000;omega)
  b:=by
   rw[en]
   unfold Dx
   rw[x1,y1,dx1,dy1];rfl
  r:=by
   refine⟨?_,hc.symm⟩
   show _=(if J7 l=true then Qb l else HF)
   rw[if_pos hc,en,dx2.eq,dy2.eq,mx,my]
   rfl }
theorem Kp:aJ Tryz.prog 77 (aC [.s .pt] aA (PW aA bD)):=by
 refine aH (un:=⟨false,some [0,2,3,4,5,7,8,9,10,11,12,13,26,28,29,30,31,83]⟩) tok Lx aL (fn:=Tryz.f77) ?_
 intro w Wr args bs r hg ho hWr A L k hA hL hk
 obtain⟨F,hF⟩:=exE aO
 obtain⟨H,hH⟩:=exE bD
 obtain⟨M,hM⟩:=exE aZ
 obtain⟨S,hS⟩:=exE aV
 obtain⟨V,hV⟩:=exE aS
 obtain⟨X,hX⟩:=exE bR
 try rw[← hF]
 try rw[← hH]
 try rw[← hM]
 try rw[← hS]
 try rw[← hV]
 try rw[← hX]
 try rw[← hA]
 unfold PW at hg
 split at hg <;> cases hg
 rename_i l
 have hlen:=(aG ho).1
 simp only[aA,aP,decide_eq_true_eq] at hlen
 have hlen:l.length < 1000000:=by omega
 have hl0:A.cmp .lss (A.len l) 1000000=true:=bH A hA _ _ (by subst hA;show(l.length:Int) < 1000000;omega)
 have hno:Ns A H l=true→(HF=H.mid l∧false=H.midOK l):=fun h=>by
  subst hA hH
  rw[Nt,Bool.not_eq_true'] at h
  refine⟨?_,h.symm⟩
  show _=(if J7 l=true then Qb l else HF)
  rw[h];rfl
 have i0:MdI l 0 [] []:=⟨Int.le_refl 0,Int.natCast_nonneg _,rfl,rfl⟩
 clear ho
 have him: ∀ b,A.imp b (A.cmp .lss (A.len l) 1000000)=true:=fun b=>by rw[hl0];subst hA;cases b <;> rfl
 cbv
 repeat' with_reducible first | (intro hb;cbv) | refine UM ?_ ?_
 ·exact him _
 ·have e:=hno hb
  refine hk _ _ (bE.pure rfl fun ρ=>?_)
  subst hH
  exact OX e.1 e.2
 clear hno him hl0
 have hc:Ns aA H l=false:=by subst hA;exact hb
 refine hL _ _ _ (gM (un:=⟨false,some [0,2,3,4,5,7,28,29,30,31]⟩) tok Lx aL 1 (fun i hi=>by have:=hWr i hi;simp at this;show i < 1;omega) (fun p:Int×List Rt×List Rt=>⟨[(30,⟨[], .c (.s (.int .i64 p.1))⟩),(29,⟨[], .c (.s (.int .i64 (aA.len l)))⟩),(28,⟨[], .c (.s (.hs 0))⟩),(5,⟨[], .c (.s (.hs 3))⟩),(4,⟨[], .c (.s (.hs 2))⟩),(2,⟨[], .c (.s (.hp 1 0))⟩),(0,⟨[], .c (.s (.hs 0))⟩)],[(0, .vec false .pt l),(1, .fix true [.P ⟨⟨⟨false,Dg.zero⟩,⟨false,Dg.zero⟩⟩,⟨⟨false,Dg.zero⟩,⟨false,Dg.zero⟩⟩⟩]),(2, .vec true .rt p.2.1),(3, .vec true .rt p.2.2)],4⟩)
  (fun p=>MdI l p.1 p.2.1 p.2.2) (fun p=>((l.length:Int) - p.1).toNat) (0,[],[]) i0 [(2, .nils),(3, .nils)] ?_ (fun _=>Nat.le_of_ble_eq_true rfl) ?_)
 ·subst hA
  exact⟨⟨⟨rfl,rfl,fun _=>rfl⟩,⟨rfl,rfl,fun _=>rfl⟩,⟨rfl,rfl,fun _=>rfl⟩,⟨rfl,rfl,fun _=>rfl⟩,⟨rfl,rfl,fun _=>rfl⟩,⟨rfl,rfl,fun _=>rfl⟩,⟨rfl,rfl,fun _=>rfl⟩,trivial⟩,⟨⟨rfl,rfl,rfl,rfl,fun h=>h⟩,⟨rfl,rfl,fun _=>rfl⟩,rfl,rfl,trivial⟩,rfl,rfl,rfl,rfl⟩
 clear i0
 rintro⟨k,M,N⟩ hI A2 L2 k2 hA2 hL2 hnext hexit hret
 have st:=fun hb:A2.cmp .lss k (A2.len l)=true=>auD hlen hI A2 hA2 hb _ rfl
 have en:=fun hb:A2.cmp .lss k (A2.len l)=false=>Np hI A2 hA2 S hS F hF H hH (by rw[hA2];exact hc) hb
 clear hI
 rw[← hA2, ← hS, ← hV, ← hX, ← hM, ← hF, ← hH]
 cbv
 repeat' with_reducible first | (intro hb;cbv) | refine UM ?_ ?_
 all_goals first | exact(st hb).o1 | exact(st hb).o2 | exact(st hb).o3 | exact hb | skip
 ·refine hnext _ (k+1,_,_) [(2, .hs 6),(3, .hs 8)] (st hb).nx (st hb).ms ?_
  have ead:=(st hb).ad
  subst hA2
  exact⟨⟨⟨rfl,rfl,leI ead⟩,⟨rfl,rfl,fun _=>rfl⟩,⟨rfl,rfl,fun _=>rfl⟩,⟨rfl,rfl,fun _=>rfl⟩,⟨rfl,rfl,fun _=>rfl⟩,⟨rfl,rfl,fun _=>rfl⟩,⟨rfl,rfl,fun _=>rfl⟩,trivial⟩,⟨⟨rfl,rfl,rfl,rfl,fun h=>h⟩,⟨rfl,rfl,fun _=>rfl⟩,⟨rfl,rfl,rfl,rfl,fun h=>h⟩,⟨rfl,rfl,rfl,rfl,fun h=>h⟩,trivial⟩,rfl,rfl,rfl,rfl⟩
 ·apply hexit
  have em:=en hb
  clear hexit hnext hret st en hb
  rw[hA2, ← hA] at em
  cbv
  repeat' with_reducible first | (intro hb;cbv) | refine UM ?_ ?_
  all_goals first | exact em.o1 | exact em.o2 | exact em.o3 | exact em.o4 | exact em.o5 | exact em.o6 | skip
  ·exfalso
   have e:=em.b
   unfold Dx at e
   rw[e] at hb
   cases hb
  ·refine hk _ _ (bE.pure rfl fun ρ=>?_)
   have e:=em.r
   subst hH hF hS hA
   exact OX e.1 e.2
def tG7 (A:Alg) (S:SW) (V:SV) (X:SX) (M:SM) (F:SF) (H:SH):List (Nat×bU):=(77,aC [.s .pt] A (PW A H)) :: ((tG6 A S V X M F H))
theorem QQ:COK Tryz.prog (aN (tG7 aA aV aS bR aZ aO bD)):=aB Kp (Lx)
end Go.Eng
