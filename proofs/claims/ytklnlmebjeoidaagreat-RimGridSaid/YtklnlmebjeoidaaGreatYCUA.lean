
import Derived.Test.YtklnlmebjeoidaaGreatYCTA
set_option linter.all false
set_option exponentiation.threshold 3000
set_option maxRecDepth 100000
set_option maxHeartbeats 2000000
namespace Go.Eng
open Go.Proofs
def tJ1 (A:Alg) (H:SH):List (Nat×bU):=(16,aC [.v] A (qO A H)) :: ([])
theorem QZ:COK Tryz.prog (aN (tJ1 aA bD)):=aB rC (bC)
theorem HZ:aJ Tryz.prog 20 (aC [.v, .v] aA (FD aA bD)):=by
 refine aH (un:=⟨false,some [0,1,4]⟩) tok QZ aL (fn:=Tryz.f20) ?_
 intro w Wr args bs r hg ho hWr A L k hA hL hk
 obtain⟨H,hH⟩:=exE bD
 try rw[← hH]
 try rw[← hA]
 unfold FD at hg
 split at hg <;> cases hg
 rename_i x y
 have o1:=(aG ho).1
 have o2:=(aG (aG ho).2).1
 have o3:=(aG (aG (aG ho).2).2).1
 have o4:=(aG (aG (aG (aG ho).2).2).2).1
 clear ho
 rw[← hA] at o1 o2 o3 o4
 cbv
 repeat' with_reducible first | (intro hb;cbv) | refine UM ?_ ?_
 all_goals first | exact o1 | exact o2 | exact o3 | exact o4 | skip
 refine hk _ _ (bE.pure rfl fun ρ=>?_)
 subst hH
 exact Ps rfl
def tJ2 (A:Alg) (F:SF):List (Nat×bU):=(23,aC [.v, .v] A (qN F)) :: ([])
theorem Q0:COK Tryz.prog (aN (tJ2 aA aO)):=aB Ab (bC)
theorem z9:aJ Tryz.prog 13 (aC [.v] aA (C1 bD)):=by
 refine aH (un:=⟨false,some [1,2]⟩) tok Q0 aL (fn:=Tryz.f13) ?_
 intro w Wr args bs r hg ho hWr A L k hA hL hk
 obtain⟨F,hF⟩:=exE aO
 obtain⟨H,hH⟩:=exE bD
 try rw[← hF]
 try rw[← hH]
 try rw[← hA]
 unfold C1 at hg
 split at hg <;> cases hg
 rename_i p
 have f:A.ite (F.safe p.X 60) (F.safe p.Y 60) false=H.all [p]:=by
  subst hA hF hH
  show(if cQ p.X 60=true then cQ p.Y 60 else false)=(dJ p&&true)
  rw[Bool.and_true]
  unfold dJ
  cases cQ p.X 60 <;> rfl
 cbv
 refine hk _ _ (bE.pure rfl fun ρ=>?_)
 subst hH
 exact yQ f
structure My (A:Alg) (H:SH) (l:List Pt) (k:Int) (w:Pt):Prop where
 o1:A.cmp .leq 0 k=true
 no:A.not (H.all [w])=true→false=H.all l
 nx:A.not (H.all [w])=false→ApI l (k+1)
 ad:A.bin .add .i64 k 1=k+1
 ms:((l.length:Int) - (k+1)).toNat < ((l.length:Int) - k).toNat
theorem Ca {l:List Pt} (hn:l.length < 1000000) {k:Int} (hI:ApI l k) (A:Alg) (hA:A=aA) (H:SH) (hH:H=bD) (hb:A.cmp .lss k (A.len l)=true) (w:Pt) (hw:w=A.get l k ⟨⟨⟨false,A.zD⟩,⟨false,A.zD⟩⟩,⟨⟨false,A.zD⟩,⟨false,A.zD⟩⟩⟩):My A H l k w:=by
 have st:=B9 hn hI A hA aO rfl H hH hb w hw
 have e:A.ite (A.not (aO.safe w.X 60)) true (A.not (aO.safe w.Y 60))=A.not (H.all [w]):=by
  subst hA hH
  show(if(!cQ w.X 60)=true then true else !cQ w.Y 60)= !(dJ w&&true)
  rw[Bool.and_true]
  unfold dJ
  cases cQ w.X 60 <;> cases cQ w.Y 60 <;> rfl
 exact⟨st.o1,fun h=>st.no (by rw[e];exact h),fun h=>st.nx (by rw[e];exact h),st.ad,st.ms⟩
def C3 (F:SF):List CV→List Blk→Option LR
 | [.g [.R a], .g [.R b]],[]=>some ⟨[], .c (.g [.R (F.sub a b)]),[]⟩
 | _,_=>none
def x9 (F:SF):List CV→List Blk→Option LR
 | [.g [.R a], .g [.R b]],[]=>some ⟨[], .c (.g [.R (F.mul a b)]),[]⟩
 | _,_=>none
def C6 (F:SF):List CV→List Blk→Option LR
 | [.g [.R a], .g [.R b]],[]=>some ⟨[], .c (.g [.R (F.add a b)]),[]⟩
 | _,_=>none
def tJ4 (A:Alg) (F:SF):List (Nat×bU):=(64,aC [.v, .v] A (A0 F)) :: (66,aC [.v, .v] A (Be F)) :: (65,aC [.v, .v] A (Bc F)) :: ([])
theorem Ly:COK Tryz.prog (aN (tJ4 aA aO)):=aB KL (aB KS (aB KQ (bC)))
theorem Gq:aJ Tryz.prog 48 (aC [.v, .v] aA (C3 aO)):=by
 refine aH (un:=⟨false,none⟩) tok Ly aL (fn:=Tryz.f48) ?_
 intro w Wr args bs r hg ho hWr A L k hA hL hk
 obtain⟨F,hF⟩:=exE aO
 try rw[← hF]
 try rw[← hA]
 unfold C3 at hg
 split at hg <;> cases hg
 cbv
 refine hk _ _ (bE.pure rfl fun ρ=>?_)
 subst hF
 exact yR rfl
theorem DS:aJ Tryz.prog 47 (aC [.v, .v] aA (x9 aO)):=by
 refine aH (un:=⟨false,none⟩) tok Ly aL (fn:=Tryz.f47) ?_
 intro w Wr args bs r hg ho hWr A L k hA hL hk
 obtain⟨F,hF⟩:=exE aO
 try rw[← hF]
 try rw[← hA]
 unfold x9 at hg
 split at hg <;> cases hg
 cbv
 refine hk _ _ (bE.pure rfl fun ρ=>?_)
 subst hF
 exact yR rfl
theorem Gr:aJ Tryz.prog 46 (aC [.v, .v] aA (C6 aO)):=by
 refine aH (un:=⟨false,none⟩) tok Ly aL (fn:=Tryz.f46) ?_
 intro w Wr args bs r hg ho hWr A L k hA hL hk
 obtain⟨F,hF⟩:=exE aO
 try rw[← hF]
 try rw[← hA]
 unfold C6 at hg
 split at hg <;> cases hg
 cbv
 refine hk _ _ (bE.pure rfl fun ρ=>?_)
 subst hF
 exact yR rfl
structure QcF (A:Alg) (F:SF) (H:SH) (a b c:Pt):Prop where
 no:A.ite (A.ite (A.not (H.all [a])) true (A.not (H.all [b]))) true (A.not (H.all [c]))=true→false=H.all [a,b,c]∧cN=H.cross a b c∧cN=H.dot a b c
 ok:A.ite (A.ite (A.not (H.all [a])) true (A.not (H.all [b]))) true (A.not (H.all [c]))=false→true=H.all [a,b,c]∧
  F.sub (F.mul (F.sub b.X a.X) (F.sub c.Y a.Y)) (F.mul (F.sub b.Y a.Y) (F.sub c.X a.X))=H.cross a b c∧
  F.add (F.mul (F.sub b.X a.X) (F.sub c.X a.X)) (F.mul (F.sub b.Y a.Y) (F.sub c.Y a.Y))=H.dot a b c
theorem RM (a b c:Pt) (A:Alg) (hA:A=aA) (F:SF) (hF:F=aO) (H:SH) (hH:H=bD):QcF A F H a b c:=by
 subst hA hF hH
 have hc:aA.ite (aA.ite (aA.not (bD.all [a])) true (aA.not (bD.all [b]))) true (aA.not (bD.all [c]))= !dX [a,b,c]:=by
  show(if(if(!(dJ a&&true))=true then true else !(dJ b&&true))=true then true else !(dJ c&&true))= !(dJ a&&(dJ b&&(dJ c&&true)))
  cases dJ a <;> cases dJ b <;> cases dJ c <;> rfl
 refine⟨fun h=>?_,fun h=>?_⟩
 ·rw[hc,Bool.not_eq_true'] at h
  refine⟨h.symm,?_,?_⟩
  ·show cN=if dX [a,b,c]=true then _ else cN
   rw[h];rfl
  ·show cN=if dX [a,b,c]=true then _ else cN
   rw[h];rfl
 ·rw[hc,Bool.not_eq_false'] at h
  obtain⟨ha,hb,hc⟩:=fV h
  have x1:=(Cal.of hb.x).sub (Cal.of ha.x) (by decide)
  have y1:=(Cal.of hc.y).sub (Cal.of ha.y) (by decide)
  have x2:=(Cal.of hb.y).sub (Cal.of ha.y) (by decide)
  have y2:=(Cal.of hc.x).sub (Cal.of ha.x) (by decide)
  have m1:=x1.2.mul y1.2 (by decide)
  have m2:=x2.2.mul y2.2 (by decide)
  have m3:=x1.2.mul y2.2 (by decide)
  have m4:=x2.2.mul y1.2 (by decide)
  refine⟨h.symm,?_,?_⟩
  ·rw[Fv h]
   exact(m1.2.sub m2.2 (by decide)).2.eq
  ·rw[M8 h]
   exact(m3.2.add m4.2 (by decide)).2.eq
def xX (H:SH):List CV→List Blk→Option LR
 | [.g [.P x], .g [.P y], .g [.P z]],[]=>some ⟨[], .t [.g [.R (H.cross x y z)], .s (.bool (H.all [x,y,z]))],[]⟩
 | _,_=>none
def CT (H:SH):List CV→List Blk→Option LR
 | [.g [.P x], .g [.P y], .g [.P z]],[]=>some ⟨[], .t [.g [.R (H.dot x y z)], .s (.bool (H.all [x,y,z]))],[]⟩
 | _,_=>none
def zO (H:SH):List CV→List Blk→Option LR
 | [.g [.P x], .g [.P y], .g [.P z]],[]=>some ⟨[], .t [.s (.int .i64 (H.turn x y z)), .s (.bool (H.all [x,y,z]))],[]⟩
 | _,_=>none
def tJ5 (A:Alg) (F:SF) (H:SH):List (Nat×bU):=(13,aC [.v] A (C1 H)) :: (48,aC [.v, .v] A (C3 F)) :: (47,aC [.v, .v] A (x9 F)) :: (46,aC [.v, .v] A (C6 F)) :: ([])
theorem OJ:COK Tryz.prog (aN (tJ5 aA aO bD)):=aB z9 (aB Gq (aB DS (aB Gr (bC))))
theorem DR:aJ Tryz.prog 63 (aC [.v, .v, .v] aA (xX bD)):=by
 refine aH (un:=⟨false,some [3,4,5,6,7,20]⟩) tok OJ aL (fn:=Tryz.f63) ?_
 intro w Wr args bs r hg ho hWr A L k hA hL hk
 obtain⟨F,hF⟩:=exE aO
 obtain⟨H,hH⟩:=exE bD
 try rw[← hF]
 try rw[← hH]
 try rw[← hA]
 unfold xX at hg
 split at hg <;> cases hg
 rename_i a b c
 have cf:=RM a b c A hA F hF H hH
 cbv
 repeat' with_reducible first | (intro hb;cbv) | refine UM ?_ ?_
 ·have e:=cf.no hb
  refine hk _ _ (bE.pure rfl fun ρ=>?_)
  subst hH
  exact eP e.2.1 e.1
 ·have e:=cf.ok hb
  refine hk _ _ (bE.pure rfl fun ρ=>?_)
  subst hH hF
  exact eP e.2.1 e.1
theorem yK:aJ Tryz.prog 31 (aC [.v, .v, .v] aA (CT bD)):=by
 refine aH (un:=⟨false,some [3,4,5,6,7,20]⟩) tok OJ aL (fn:=Tryz.f31) ?_
 intro w Wr args bs r hg ho hWr A L k hA hL hk
 obtain⟨F,hF⟩:=exE aO
 obtain⟨H,hH⟩:=exE bD
 try rw[← hF]
 try rw[← hH]
 try rw[← hA]
 unfold CT at hg
 split at hg <;> cases hg
 rename_i a b c
 have cf:=RM a b c A hA F hF H hH
 cbv
 repeat' with_reducible first | (intro hb;cbv) | refine UM ?_ ?_
 ·have e:=cf.no hb
  refine hk _ _ (bE.pure rfl fun ρ=>?_)
  subst hH
  exact eP e.2.2 e.1
 ·have e:=cf.ok hb
  refine hk _ _ (bE.pure rfl fun ρ=>?_)
  subst hH hF
  exact eP e.2.2 e.1
theorem BM (a b c:Pt):aO.sign (bD.cross a b c)=bD.turn a b c:=by
 show aO.sign (if dX [a,b,c]=true then ofQ (bB a b c) else cN)=if dX [a,b,c]=true then cZ (bB a b c) 0 else 0
 cases h:dX [a,b,c]
 ·rfl
 ·obtain⟨ha,hb,hc⟩:=fV h
  have x1:=(Cal.of hb.x).sub (Cal.of ha.x) (by decide)
  have y1:=(Cal.of hc.y).sub (Cal.of ha.y) (by decide)
  have x2:=(Cal.of hb.y).sub (Cal.of ha.y) (by decide)
  have y2:=(Cal.of hc.x).sub (Cal.of ha.x) (by decide)
  have m1:=x1.2.mul y1.2 (by decide)
  have m2:=x2.2.mul y2.2 (by decide)
  have m:=m1.2.sub m2.2 (by decide)
  show aO.sign (ofQ (bB a b c))=cZ (bB a b c) 0
  have e:ofQ (bB a b c)=aO.sub (aO.mul (aO.sub b.X a.X) (aO.sub c.Y a.Y)) (aO.mul (aO.sub b.Y a.Y) (aO.sub c.X a.X)):=m.2.eq.symm
  rw[e]
  exact m.2.sign
theorem Aq (a b c:Pt):aO.sign (bD.dot a b c)=if dX [a,b,c]=true then cZ (gY a b c) 0 else 0:=by
 show aO.sign (if dX [a,b,c]=true then ofQ (gY a b c) else cN)=_
 cases h:dX [a,b,c]
 ·rfl
 ·obtain⟨ha,hb,hc⟩:=fV h
  have x1:=(Cal.of hb.x).sub (Cal.of ha.x) (by decide)
  have y1:=(Cal.of hc.y).sub (Cal.of ha.y) (by decide)
  have x2:=(Cal.of hb.y).sub (Cal.of ha.y) (by decide)
  have y2:=(Cal.of hc.x).sub (Cal.of ha.x) (by decide)
  have m3:=x1.2.mul y2.2 (by decide)
  have m4:=x2.2.mul y1.2 (by decide)
  have m:=m3.2.add m4.2 (by decide)
  show aO.sign (ofQ (gY a b c))=cZ (gY a b c) 0
  have e:ofQ (gY a b c)=aO.add (aO.mul (aO.sub b.X a.X) (aO.sub c.X a.X)) (aO.mul (aO.sub b.Y a.Y) (aO.sub c.Y a.Y)):=m.2.eq.symm
  rw[e]
  exact m.2.sign
def tJ6 (A:Alg) (F:SF) (H:SH):List (Nat×bU):=(63,aC [.v, .v, .v] A (xX H)) :: (31,aC [.v, .v, .v] A (CT H)) :: (45,aC [.v] A (lQ F)) :: ([])
theorem Q1:COK Tryz.prog (aN (tJ6 aA aO bD)):=aB DR (aB yK (aB nI (bC)))
theorem Aa:aJ Tryz.prog 44 (aC [.v, .v, .v] aA (zO bD)):=by
 refine aH (un:=⟨false,some [3,4,5,6,7,8,9]⟩) tok Q1 aL (fn:=Tryz.f44) ?_
 intro w Wr args bs r hg ho hWr A L k hA hL hk
 obtain⟨F,hF⟩:=exE aO
 obtain⟨H,hH⟩:=exE bD
 try rw[← hF]
 try rw[← hH]
 try rw[← hA]
 unfold zO at hg
 split at hg <;> cases hg
 rename_i a b c
 have e:F.sign (H.cross a b c)=H.turn a b c:=by subst hF hH;exact BM a b c
 cbv
 refine hk _ _ (bE.pure rfl fun ρ=>?_)
 subst hH hF
 exact BR e rfl
theorem agT:aJ Tryz.prog 18 (aC [.v, .v] aA (PQ bD)):=by
 refine aH (un:=⟨false,some [2,3,4,5]⟩) tok Q1 aL (fn:=Tryz.f18) ?_
 intro w Wr args bs r hg ho hWr A L k hA hL hk
 obtain⟨F,hF⟩:=exE aO
 obtain⟨H,hH⟩:=exE bD
 try rw[← hF]
 try rw[← hH]
 try rw[← hA]
 unfold PQ at hg
 split at hg <;> cases hg
 rename_i x y
 cbv
 refine hk _ _ (bE.pure rfl fun ρ=>?_)
 subst hH
 exact xA rfl rfl
def acS (H:SH):List CV→List Blk→Option LR
 | [.g [.P x], .g [.P y]],[]=>some ⟨[H.all [x,y]], .c (.s (.int .i64 (H.cmp x y))),[]⟩
 | _,_=>none
structure CqF (A:Alg) (F:SF) (H:SH) (x y:Pt):Prop where
 c1:A.cmp .neq (F.cmp x.X y.X) 0=true→F.cmp x.X y.X=H.cmp x y
 c0:A.cmp .neq (F.cmp x.X y.X) 0=false→F.cmp x.Y y.Y=H.cmp x y
theorem agD (x y:Pt) (A:Alg) (hA:A=aA) (F:SF) (hF:F=aO) (H:SH) (hH:H=bD) (ho:H.all [x,y]=true):CqF A F H x y:=by
 subst hA hF hH
 have ho:dX [x,y]=true:=ho
 obtain⟨hx,hy⟩:=Fl ho
 have c1:=((Cal.of hx.x).cmp (Cal.of hy.x) (by decide)).2
 have c2:=((Cal.of hx.y).cmp (Cal.of hy.y) (by decide)).2
 have e:bD.cmp x y=iQ x y:=by
  show(if dX [x,y]=true then _ else _)=_
  rw[ho];rfl
 constructor
 ·intro h
  rw[c1] at h ⊢
  rw[e]
  have h:(cZ (px x) (px y) != 0)=true:=h
  have h:cZ (px x) (px y)≠0:=by simpa using h
  unfold iQ
  rw[if_pos h];rfl
 ·intro h
  rw[c1] at h
  rw[c2,e]
  have h:(cZ (px x) (px y) != 0)=false:=h
  have h:cZ (px x) (px y)=0:=by simpa using h
  unfold iQ
  rw[if_neg (by rw[h];decide)];rfl
def tJ9 (A:Alg) (F:SF) (H:SH):List (Nat×bU):=(19,aC [.v, .v] A (A1 F)) :: ([])
theorem afW:COK Tryz.prog (aN (tJ9 aA aO bD)):=aB Gs (bC)
theorem acU:aJ Tryz.prog 28 (aC [.v, .v] aA (acS bD)):=by
 refine aH (un:=⟨false,some [0,1,2,3,4,5,7,18]⟩) tok afW aL (fn:=Tryz.f28) ?_
 intro w Wr args bs r hg ho hWr A L k hA hL hk
 obtain⟨F,hF⟩:=exE aO
 obtain⟨H,hH⟩:=exE bD
 try rw[← hF]
 try rw[← hH]
 try rw[← hA]
 unfold acS at hg
 split at hg <;> cases hg
 rename_i x y
 have ho:=(aG ho).1
 rw[← hH] at ho
 have cq:=agD x y A hA F hF H hH ho
 cbv
 repeat' with_reducible first | (intro hb;cbv) | refine UM ?_ ?_
 ·refine hk _ _ (bE.pure rfl fun ρ=>?_)
  have e:=cq.c1 hb
  subst hH hF
  exact B2 e
 ·refine hk _ _ (bE.pure rfl fun ρ=>?_)
  have e:=cq.c0 hb
  subst hH hF
  exact B2 e
end Go.Eng
