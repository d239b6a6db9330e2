
import Derived.Test.YtbfknjpggfkgjaaGreatYCTA
set_option linter.all false
set_option exponentiation.threshold 3000
set_option maxRecDepth 100000
set_option maxHeartbeats 2000000
namespace Go.Eng
open Go.Proofs
def tJ1 (A:Alg) (H:SH):List (Nat×bU):=(21,aC [.v] A (qO A H)) :: ([])
theorem QZ:COK Tryz.prog (aN (tJ1 aA bD)):=aB rC (bC)
theorem HZ:aJ Tryz.prog 31 (aC [.v, .v] aA (FD aA bD)):=by
 refine aH (un:=⟨false,some [0,1,4]⟩) tok QZ aL (fn:=Tryz.f31) ?_
 intro w Wr args bs r hg ho hWr A L k hA hL hk
 obtain⟨H,hH⟩:=exE bD
 try rw[← hH]
 try rw[← hA]
 unfold FD at hg
 split at hg <;> cases hg
 rename_i x y
 have o1:=(aG ho).1
 have o2:=(aG (aG ho).2).1
 have o3:=(aG (aG (aG ho).2).2).1
 have o4:=(aG (aG (aG (aG ho).2).2).2).1
 clear ho
 rw[← hA] at o1 o2 o3 o4
 cbv
 repeat' with_reducible first | (intro hb;cbv) | refine UM ?_ ?_
 all_goals first | exact o1 | exact o2 | exact o3 | exact o4 | skip
 refine hk _ _ (bE.pure rfl fun ρ=>?_)
 subst hH
 exact Ps rfl
def tJ2 (A:Alg) (F:SF):List (Nat×bU):=(65,aC [.v, .v] A (qN F)) :: ([])
theorem Q0:COK Tryz.prog (aN (tJ2 aA aO)):=aB Ab (bC)
theorem ak3:aJ Tryz.prog 32 (aC [.v] aA (C1 bD)):=by
 refine aH (un:=⟨false,some [1,2]⟩) tok Q0 aL (fn:=Tryz.f32) ?_
 intro w Wr args bs r hg ho hWr A L k hA hL hk
 obtain⟨F,hF⟩:=exE aO
 obtain⟨H,hH⟩:=exE bD
 try rw[← hF]
 try rw[← hH]
 try rw[← hA]
 unfold C1 at hg
 split at hg <;> cases hg
 rename_i p
 have f:A.ite (F.safe p.X 60) (F.safe p.Y 60) false=H.all [p]:=by
  subst hA hF hH
  show(if cQ p.X 60=true then cQ p.Y 60 else false)=(dJ p&&true)
  rw[Bool.and_true]
  unfold dJ
  cases cQ p.X 60 <;> rfl
 cbv
 refine hk _ _ (bE.pure rfl fun ρ=>?_)
 subst hH
 exact yQ f
structure My (A:Alg) (H:SH) (l:List Pt) (k:Int) (w:Pt):Prop where
 o1:A.cmp .leq 0 k=true
 no:A.not (H.all [w])=true→false=H.all l
 nx:A.not (H.all [w])=false→ApI l (k+1)
 ad:A.bin .add .i64 k 1=k+1
 ms:((l.length:Int) - (k+1)).toNat < ((l.length:Int) - k).toNat
theorem Ca {l:List Pt} (hn:l.length < 1000000) {k:Int} (hI:ApI l k) (A:Alg) (hA:A=aA) (H:SH) (hH:H=bD) (hb:A.cmp .lss k (A.len l)=true) (w:Pt) (hw:w=A.get l k ⟨⟨⟨false,A.zD⟩,⟨false,A.zD⟩⟩,⟨⟨false,A.zD⟩,⟨false,A.zD⟩⟩⟩):My A H l k w:=by
 have st:=B9 hn hI A hA aO rfl H hH hb w hw
 have e:A.ite (A.not (aO.safe w.X 60)) true (A.not (aO.safe w.Y 60))=A.not (H.all [w]):=by
  subst hA hH
  show(if(!cQ w.X 60)=true then true else !cQ w.Y 60)= !(dJ w&&true)
  rw[Bool.and_true]
  unfold dJ
  cases cQ w.X 60 <;> cases cQ w.Y 60 <;> rfl
 exact⟨st.o1,fun h=>st.no (by rw[e];exact h),fun h=>st.nx (by rw[e];exact h),st.ad,st.ms⟩
def C3 (F:SF):List CV→List Blk→Option LR
 | [.g [.R a], .g [.R b]],[]=>some ⟨[], .c (.g [.R (F.sub a b)]),[]⟩
 | _,_=>none
def x9 (F:SF):List CV→List Blk→Option LR
 | [.g [.R a], .g [.R b]],[]=>some ⟨[], .c (.g [.R (F.mul a b)]),[]⟩
 | _,_=>none
def C6 (F:SF):List CV→List Blk→Option LR
 | [.g [.R a], .g [.R b]],[]=>some ⟨[], .c (.g [.R (F.add a b)]),[]⟩
 | _,_=>none
def tJ4 (A:Alg) (F:SF):List (Nat×bU):=(25,aC [.v, .v] A (A0 F)) :: (92,aC [.v, .v] A (Be F)) :: (93,aC [.v, .v] A (Bc F)) :: (119,aC [.v, .v] A (A9 F)) :: ([])
theorem Ly:COK Tryz.prog (aN (tJ4 aA aO)):=aB KL (aB KS (aB KQ (aB KO (bC))))
theorem Gq:aJ Tryz.prog 58 (aC [.v, .v] aA (C3 aO)):=by
 refine aH (un:=⟨false,none⟩) tok Ly aL (fn:=Tryz.f58) ?_
 intro w Wr args bs r hg ho hWr A L k hA hL hk
 obtain⟨F,hF⟩:=exE aO
 try rw[← hF]
 try rw[← hA]
 unfold C3 at hg
 split at hg <;> cases hg
 cbv
 refine hk _ _ (bE.pure rfl fun ρ=>?_)
 subst hF
 exact yR rfl
theorem DS:aJ Tryz.prog 59 (aC [.v, .v] aA (x9 aO)):=by
 refine aH (un:=⟨false,none⟩) tok Ly aL (fn:=Tryz.f59) ?_
 intro w Wr args bs r hg ho hWr A L k hA hL hk
 obtain⟨F,hF⟩:=exE aO
 try rw[← hF]
 try rw[← hA]
 unfold x9 at hg
 split at hg <;> cases hg
 cbv
 refine hk _ _ (bE.pure rfl fun ρ=>?_)
 subst hF
 exact yR rfl
theorem Gr:aJ Tryz.prog 118 (aC [.v, .v] aA (C6 aO)):=by
 refine aH (un:=⟨false,none⟩) tok Ly aL (fn:=Tryz.f118) ?_
 intro w Wr args bs r hg ho hWr A L k hA hL hk
 obtain⟨F,hF⟩:=exE aO
 try rw[← hF]
 try rw[← hA]
 unfold C6 at hg
 split at hg <;> cases hg
 cbv
 refine hk _ _ (bE.pure rfl fun ρ=>?_)
 subst hF
 exact yR rfl
structure QcF (A:Alg) (F:SF) (H:SH) (a b c:Pt):Prop where
 no:A.ite (A.ite (A.not (H.all [a])) true (A.not (H.all [b]))) true (A.not (H.all [c]))=true→false=H.all [a,b,c]∧cN=H.cross a b c∧cN=H.dot a b c
 ok:A.ite (A.ite (A.not (H.all [a])) true (A.not (H.all [b]))) true (A.not (H.all [c]))=false→true=H.all [a,b,c]∧
  F.sub (F.mul (F.sub b.X a.X) (F.sub c.Y a.Y)) (F.mul (F.sub b.Y a.Y) (F.sub c.X a.X))=H.cross a b c∧
  F.add (F.mul (F.sub b.X a.X) (F.sub c.X a.X)) (F.mul (F.sub b.Y a.Y) (F.sub c.Y a.Y))=H.dot a b c
theorem RM (a b c:Pt) (A:Alg) (hA:A=aA) (F:SF) (hF:F=aO) (H:SH) (hH:H=bD):QcF A F H a b c:=by
 subst hA hF hH
 have hc:aA.ite (aA.ite (aA.not (bD.all [a])) true (aA.not (bD.all [b]))) true (aA.not (bD.all [c]))= !dX [a,b,c]:=by
  show(if(if(!(dJ a&&true))=true then true else !(dJ b&&true))=true then true else !(dJ c&&true))= !(dJ a&&(dJ b&&(dJ c&&true)))
  cases dJ a <;> cases dJ b <;> cases dJ c <;> rfl
 refine⟨fun h=>?_,fun h=>?_⟩
 ·rw[hc,Bool.not_eq_true'] at h
  refine⟨h.symm,?_,?_⟩
  ·show cN=if dX [a,b,c]=true then _ else cN
   rw[h];rfl
  ·show cN=if dX [a,b,c]=true then _ else cN
   rw[h];rfl
 ·rw[hc,Bool.not_eq_false'] at h
  obtain⟨ha,hb,hc⟩:=fV h
  have x1:=(Cal.of hb.x).sub (Cal.of ha.x) (by decide)
  have y1:=(Cal.of hc.y).sub (Cal.of ha.y) (by decide)
  have x2:=(Cal.of hb.y).sub (Cal.of ha.y) (by decide)
  have y2:=(Cal.of hc.x).sub (Cal.of ha.x) (by decide)
  have m1:=x1.2.mul y1.2 (by decide)
  have m2:=x2.2.mul y2.2 (by decide)
  have m3:=x1.2.mul y2.2 (by decide)
  have m4:=x2.2.mul y1.2 (by decide)
  refine⟨h.symm,?_,?_⟩
  ·rw[Fv h]
   exact(m1.2.sub m2.2 (by decide)).2.eq
  ·rw[M8 h]
   exact(m3.2.add m4.2 (by decide)).2.eq
def xX (H:SH):List CV→List Blk→Option LR
 | [.g [.P x], .g [.P y], .g [.P z]],[]=>some ⟨[], .t [.g [.R (H.cross x y z)], .s (.bool (H.all [x,y,z]))],[]⟩
 | _,_=>none
def CT (H:SH):List CV→List Blk→Option LR
 | [.g [.P x], .g [.P y], .g [.P z]],[]=>some ⟨[], .t [.g [.R (H.dot x y z)], .s (.bool (H.all [x,y,z]))],[]⟩
 | _,_=>none
def zO (H:SH):List CV→List Blk→Option LR
 | [.g [.P x], .g [.P y], .g [.P z]],[]=>some ⟨[], .t [.s (.int .i64 (H.turn x y z)), .s (.bool (H.all [x,y,z]))],[]⟩
 | _,_=>none
def tJ5 (A:Alg) (F:SF) (H:SH):List (Nat×bU):=(32,aC [.v] A (C1 H)) :: (58,aC [.v, .v] A (C3 F)) :: (59,aC [.v, .v] A (x9 F)) :: (118,aC [.v, .v] A (C6 F)) :: ([])
theorem OJ:COK Tryz.prog (aN (tJ5 aA aO bD)):=aB ak3 (aB Gq (aB DS (aB Gr (bC))))
theorem DR:aJ Tryz.prog 24 (aC [.v, .v, .v] aA (xX bD)):=by
 refine aH (un:=⟨false,some [3,4,5,6,7,20]⟩) tok OJ aL (fn:=Tryz.f24) ?_
 intro w Wr args bs r hg ho hWr A L k hA hL hk
 obtain⟨F,hF⟩:=exE aO
 obtain⟨H,hH⟩:=exE bD
 try rw[← hF]
 try rw[← hH]
 try rw[← hA]
 unfold xX at hg
 split at hg <;> cases hg
 rename_i a b c
 have cf:=RM a b c A hA F hF H hH
 cbv
 repeat' with_reducible first | (intro hb;cbv) | refine UM ?_ ?_
 ·have e:=cf.no hb
  refine hk _ _ (bE.pure rfl fun ρ=>?_)
  subst hH
  exact kP e.2.1 e.1
 ·have e:=cf.ok hb
  refine hk _ _ (bE.pure rfl fun ρ=>?_)
  subst hH hF
  exact kP e.2.1 e.1
theorem yK:aJ Tryz.prog 102 (aC [.v, .v, .v] aA (CT bD)):=by
 refine aH (un:=⟨false,some [3,4,5,6,7,20]⟩) tok OJ aL (fn:=Tryz.f102) ?_
 intro w Wr args bs r hg ho hWr A L k hA hL hk
 obtain⟨F,hF⟩:=exE aO
 obtain⟨H,hH⟩:=exE bD
 try rw[← hF]
 try rw[← hH]
 try rw[← hA]
 unfold CT at hg
 split at hg <;> cases hg
 rename_i a b c
 have cf:=RM a b c A hA F hF H hH
 cbv
 repeat' with_reducible first | (intro hb;cbv) | refine UM ?_ ?_
 ·have e:=cf.no hb
  refine hk _ _ (bE.pure rfl fun ρ=>?_)
  subst hH
  exact kP e.2.2 e.1
 ·have e:=cf.ok hb
  refine hk _ _ (bE.pure rfl fun ρ=>?_)
  subst hH hF
  exact kP e.2.2 e.1
theorem BM (a b c:Pt):aO.sign (bD.cross a b c)=bD.turn a b c:=by
 show aO.sign (if dX [a,b,c]=true then ofQ (bB a b c) else cN)=if dX [a,b,c]=true then cZ (bB a b c) 0 else 0
 cases h:dX [a,b,c]
 ·rfl
 ·obtain⟨ha,hb,hc⟩:=fV h
  have x1:=(Cal.of hb.x).sub (Cal.of ha.x) (by decide)
  have y1:=(Cal.of hc.y).sub (Cal.of ha.y) (by decide)
  have x2:=(Cal.of hb.y).sub (Cal.of ha.y) (by decide)
  have y2:=(Cal.of hc.x).sub (Cal.of ha.x) (by decide)
  have m1:=x1.2.mul y1.2 (by decide)
  have m2:=x2.2.mul y2.2 (by decide)
  have m:=m1.2.sub m2.2 (by decide)
  show aO.sign (ofQ (bB a b c))=cZ (bB a b c) 0
  have e:ofQ (bB a b c)=aO.sub (aO.mul (aO.sub b.X a.X) (aO.sub c.Y a.Y)) (aO.mul (aO.sub b.Y a.Y) (aO.sub c.X a.X)):=m.2.eq.symm
  rw[e]
  exact m.2.sign
def tJ6 (A:Alg) (F:SF) (H:SH):List (Nat×bU):=(24,aC [.v, .v, .v] A (xX H)) :: (102,aC [.v, .v, .v] A (CT H)) :: (26,aC [.v] A (lQ F)) :: ([])
theorem Q1:COK Tryz.prog (aN (tJ6 aA aO bD)):=aB DR (aB yK (aB nI (bC)))
theorem Aa:aJ Tryz.prog 29 (aC [.v, .v, .v] aA (zO bD)):=by
 refine aH (un:=⟨false,some [3,4,5,6,7,8,9]⟩) tok Q1 aL (fn:=Tryz.f29) ?_
 intro w Wr args bs r hg ho hWr A L k hA hL hk
 obtain⟨F,hF⟩:=exE aO
 obtain⟨H,hH⟩:=exE bD
 try rw[← hF]
 try rw[← hH]
 try rw[← hA]
 unfold zO at hg
 split at hg <;> cases hg
 rename_i a b c
 have e:F.sign (H.cross a b c)=H.turn a b c:=by subst hF hH;exact BM a b c
 cbv
 refine hk _ _ (bE.pure rfl fun ρ=>?_)
 subst hH hF
 exact BR e rfl
def zN (H:SH):List CV→List Blk→Option LR
 | [.g [.P x], .g [.P y], .g [.P z]],[]=>some ⟨[], .c (.s (.int .i64 (H.turn x y z))),[]⟩
 | _,_=>none
def tJ7 (A:Alg) (H:SH):List (Nat×bU):=(29,aC [.v, .v, .v] A (zO H)) :: ([])
theorem Q2:COK Tryz.prog (aN (tJ7 aA bD)):=aB Aa (bC)
theorem DT:aJ Tryz.prog 62 (aC [.v, .v, .v] aA (zN bD)):=by
 refine aH (un:=⟨false,some [3,4,5,6,7,8]⟩) tok Q2 aL (fn:=Tryz.f62) ?_
 intro w Wr args bs r hg ho hWr A L k hA hL hk
 obtain⟨H,hH⟩:=exE bD
 try rw[← hH]
 try rw[← hA]
 unfold zN at hg
 split at hg <;> cases hg
 cbv
 refine hk _ _ (bE.pure rfl fun ρ=>?_)
 subst hH
 exact B2 rfl
end Go.Eng
