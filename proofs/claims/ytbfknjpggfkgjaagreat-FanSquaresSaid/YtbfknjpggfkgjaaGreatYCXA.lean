
import Derived.Test.YtbfknjpggfkgjaaGreatYCVA
import Derived.Test.YtbfknjpggfkgjaaGreatSpecFA
import Derived.Test.YtbfknjpggfkgjaaGreatEngZA
set_option linter.all false
set_option exponentiation.threshold 3000
set_option maxRecDepth 100000
set_option maxHeartbeats 2000000
namespace Go.Eng
open Go.Proofs
theorem aq4 {a b p:Pt} (A:Alg) (hA:A=aA) (H:SH) (hH:H=bD):A.ite (A.ite (A.not (H.all [a])) true (A.not (H.all [b]))) true (A.not (H.all [p]))=A.not (H.all [a,b,p]):=by
 subst hA hH
 show(if(if(!(dJ a&&true))=true then true else !(dJ b&&true))=true then true else !(dJ p&&true))= !(dJ a&&(dJ b&&(dJ p&&true)))
 cases dJ a <;> cases dJ b <;> cases dJ p <;> rfl
structure asO (a b c:Pt):Prop where
 x:Cal (bD.cross a b c) (bB a b c) 485
 d:Cal (bD.dot a b c) (gY a b c) 485
theorem aqB {a b c:Pt} (h:dX [a,b,c]=true):asO a b c:=by
 obtain⟨ha,hb,hc⟩:=fV h
 have x1:=(Cal.of hb.x).sub (Cal.of ha.x) (by decide)
 have y1:=(Cal.of hc.y).sub (Cal.of ha.y) (by decide)
 have x2:=(Cal.of hb.y).sub (Cal.of ha.y) (by decide)
 have y2:=(Cal.of hc.x).sub (Cal.of ha.x) (by decide)
 have m1:=x1.2.mul y1.2 (by decide)
 have m2:=x2.2.mul y2.2 (by decide)
 have m3:=x1.2.mul y2.2 (by decide)
 have m4:=x2.2.mul y1.2 (by decide)
 have mx:=(m1.2.sub m2.2 (by decide)).2
 have md:=(m3.2.add m4.2 (by decide)).2
 constructor
 ·rw[Fv h];exact(show ofQ (bB a b c)=_ from mx.eq.symm) ▸ mx
 ·rw[M8 h];exact(show ofQ (gY a b c)=_ from md.eq.symm) ▸ md
section
variable {ρ:Rho} {f:Nat→Nat}
theorem arE {b d x y:Bool} (h1:b=d) (h2:x=y):(XV.t [.s (.tt b), .s (.tt x)]).den ρ=((XV.t [.s (.bool d), .s (.bool y)]).ren f).den ρ:=by subst h1 h2;rfl
theorem arD {b d x y:Bool} (h1:b=d) (h2:x=y):(XV.t [.s (.bool b), .s (.tt x)]).den ρ=((XV.t [.s (.bool d), .s (.bool y)]).ren f).den ρ:=by subst h1 h2;rfl
end
def apP (H:SH) (E:SE):List CV→List Blk→Option LR
 | [.g [.P a], .g [.P b], .g [.P c]],[]=>some ⟨[], .t [.s (.bool (E.good a b c)), .s (.bool (H.all [a,b,c]))],[]⟩
 | _,_=>none
def an3 (H:SH) (E:SE):List CV→List Blk→Option LR
 | [.g [.P a], .g [.P b], .g [.P c]],[]=>some ⟨[H.all [a,b,c]], .c (.s (.bool (E.wide a b c))),[]⟩
 | _,_=>none
def wdC (A:Alg) (F:SF) (H:SH) (a b c:Pt):Bool:=A.ite (A.cmp .gtr (F.cmp (H.dot a b c) (H.cross a b c)) 0) true (A.not (F.two (H.dot a b c) (H.cross a b c)))
structure GdE (A:Alg) (F:SF) (H:SH) (E:SE) (a b c:Pt):Prop where
 no:A.not (H.all [a,b,c])=true→false=E.good a b c∧false=H.all [a,b,c]
 ok:A.not (H.all [a,b,c])=false→true=H.all [a,b,c]
 w1:A.not (H.all [a,b,c])=false→wdC A F H a b c=true→false=E.good a b c
 w2:A.not (H.all [a,b,c])=false→wdC A F H b c a=true→false=E.good a b c
 w3:A.not (H.all [a,b,c])=false→wdC A F H c a b=true→false=E.good a b c
 y:A.not (H.all [a,b,c])=false→wdC A F H a b c=false→wdC A F H b c a=false→wdC A F H c a b=false→A.cmp .eql (H.turn a b c) 1=E.good a b c
theorem ap7 {a b c:Pt} (h:dX [a,b,c]=true):wdC aA aO bD a b c= !z9 a b c:=by
 have cc:=aqB h
 obtain⟨h1,h2⟩:=cc.d.cmp cc.x (by decide)
 unfold wdC z9
 rw[h1,h2]
 show(if decide (cZ (gY a b c) (bB a b c) > 0)=true then true else !true)=_
 rcases dH (gY a b c) (bB a b c) with ⟨h,e,_⟩ | ⟨h,e,_⟩ | ⟨h,e,_⟩ <;> rw[e]
 ·rw[decide_eq_true (by grind:gY a b c≤bB a b c)];rfl
 ·rw[decide_eq_true (by grind:gY a b c≤bB a b c)];rfl
 ·rw[decide_eq_false (Rat.not_le.2 h)];rfl
theorem asW (a b c:Pt) (A:Alg) (hA:A=aA) (F:SF) (hF:F=aO) (H:SH) (hH:H=bD) (E:SE) (hE:E=aoF):GdE A F H E a b c:=by
 subst hA hF hH hE
 have hn:aA.not (bD.all [a,b,c])= !dX [a,b,c]:=rfl
 have eg: ∀ c',dX [a,b,c]=c'→aoF.good a b c=(c'&&(decide (cZ (bB a b c) 0=1)&&(z9 a b c&&(z9 b c a&&z9 c a b)))):=fun c' h=>by
  show(dX [a,b,c]&&_)=_
  rw[h]
 have rot:dX [a,b,c]=true→dX [b,c,a]=true∧dX [c,a,b]=true:=fun h=>by
  obtain⟨ha,hb,hc⟩:=fV h
  have ga:=fJ.2 ha
  have gb:=fJ.2 hb
  have gc:=fJ.2 hc
  exact⟨AL gb gc ga,AL gc ga gb⟩
 refine⟨fun h=>?_,fun h=>?_,fun h h1=>?_,fun h h1=>?_,fun h h1=>?_,fun h h1 h2 h3=>?_⟩
 ·rw[hn,Bool.not_eq_true'] at h
  exact⟨(eg _ h).symm,h.symm⟩
 ·rw[hn,Bool.not_eq_false'] at h
  exact h.symm
 ·rw[hn,Bool.not_eq_false'] at h
  rw[ap7 h,Bool.not_eq_true'] at h1
  rw[eg _ h,h1,Bool.false_and,Bool.and_false];rfl
 ·rw[hn,Bool.not_eq_false'] at h
  rw[ap7 (rot h).1,Bool.not_eq_true'] at h1
  rw[eg _ h,h1,Bool.false_and,Bool.and_false,Bool.and_false];rfl
 ·rw[hn,Bool.not_eq_false'] at h
  rw[ap7 (rot h).2,Bool.not_eq_true'] at h1
  rw[eg _ h,h1,Bool.and_false,Bool.and_false,Bool.and_false];rfl
 ·rw[hn,Bool.not_eq_false'] at h
  rw[ap7 h,Bool.not_eq_false'] at h1
  rw[ap7 (rot h).1,Bool.not_eq_false'] at h2
  rw[ap7 (rot h).2,Bool.not_eq_false'] at h3
  rw[eg _ h,h1,h2,h3,kN h]
  show(cZ (bB a b c) 0 == 1)=_
  by_cases hs:cZ (bB a b c) 0=1
  ·rw[hs];rfl
  ·rw[decide_eq_false hs,beq_eq_false_iff_ne.2 hs];rfl
theorem arN {a b c:Pt} (A:Alg) (hA:A=aA) (F:SF) (hF:F=aO) (H:SH) (hH:H=bD) (E:SE) (hE:E=aoF) (h:H.all [a,b,c]=true):A.cmp .leq (F.cmp (H.dot a b c) (H.cross a b c)) 0=E.wide a b c:=by
 subst hA hF hH hE
 have cc:=aqB h
 obtain⟨h1,h2⟩:=cc.d.cmp cc.x (by decide)
 rw[h2]
 show decide (cZ (gY a b c) (bB a b c)≤0)=decide (gY a b c≤bB a b c)
 rw[decide_eq_decide]
 rcases dH (gY a b c) (bB a b c) with ⟨h,e,_⟩ | ⟨h,e,_⟩ | ⟨h,e,_⟩ <;> rw[e]
 ·exact⟨fun _=>by grind,fun _=>by decide⟩
 ·exact⟨fun _=>by grind,fun _=>by decide⟩
 ·exact⟨fun h'=>absurd h' (by decide),fun h'=>absurd h' (Rat.not_le.2 h)⟩
def tRa (A:Alg) (F:SF) (H:SH):List (Nat×bU):=(24,aC [.v, .v, .v] A (xX H)) :: (102,aC [.v, .v, .v] A (CT H)) :: (64,aC [.v, .v] A (A1 F)) :: ([])
theorem asH:COK Tryz.prog (aN (tRa aA aO bD)):=aB DR (aB yK (aB Gs (bC)))
theorem aoW:aJ Tryz.prog 63 (aC [.v, .v, .v] aA (an3 bD aoF)):=by
 refine aH (un:=⟨false,some [3,4,5,6,7,8,9,10,11,12]⟩) tok asH aL (fn:=Tryz.f63) ?_
 intro w Wr args bs r hg ho hWr A L k hA hL hk
 obtain⟨E,hE⟩:=exE aoF
 obtain⟨F,hF⟩:=exE aO
 obtain⟨H,hH⟩:=exE bD
 try rw[← hE]
 try rw[← hF]
 try rw[← hH]
 try rw[← hA]
 unfold an3 at hg
 split at hg <;> cases hg
 rename_i a b c
 have h0:=(aG ho).1
 clear ho
 rw[← hH] at h0
 have e:=arN A hA F hF H hH E hE h0
 cbv
 refine hk _ _ (bE.pure rfl fun ρ=>?_)
 subst hE
 exact yQ e
structure GqE (A:Alg) (H:SH) (E:SE) (a b c:Pt):Prop where
 o1:A.not (H.all [a,b,c])=false→H.all [a,b,c]=true
 o2:A.not (H.all [a,b,c])=false→H.all [b,c,a]=true
 o3:A.not (H.all [a,b,c])=false→H.all [c,a,b]=true
 y:A.not (H.all [a,b,c])=false→A.ite (A.ite (A.ite (A.cmp .eql (H.turn a b c) 1) (E.wide a b c) false) (E.wide b c a) false) (E.wide c a b) false=E.good a b c
theorem asX (a b c:Pt) (A:Alg) (hA:A=aA) (H:SH) (hH:H=bD) (E:SE) (hE:E=aoF):GqE A H E a b c:=by
 subst hA hH hE
 have hn:aA.not (bD.all [a,b,c])= !dX [a,b,c]:=rfl
 have rot:dX [a,b,c]=true→dX [b,c,a]=true∧dX [c,a,b]=true:=fun h=>by
  obtain⟨ha,hb,hc⟩:=fV h
  have ga:=fJ.2 ha
  have gb:=fJ.2 hb
  have gc:=fJ.2 hc
  exact⟨AL gb gc ga,AL gc ga gb⟩
 refine⟨fun h=>?_,fun h=>?_,fun h=>?_,fun h=>?_⟩
 all_goals rw[hn,Bool.not_eq_false'] at h
 ·exact h
 ·exact(rot h).1
 ·exact(rot h).2
 ·rw[kN h]
  show(if(if(if(cZ (bB a b c) 0 == 1)=true then z9 a b c else false)=true then z9 b c a else false)=true then z9 c a b else false)=(dX [a,b,c]&&(decide (cZ (bB a b c) 0=1)&&(z9 a b c&&(z9 b c a&&z9 c a b))))
  rw[h]
  have e:(cZ (bB a b c) 0 == 1)=decide (cZ (bB a b c) 0=1):=by
   by_cases hs:cZ (bB a b c) 0=1
   ·rw[hs];rfl
   ·rw[decide_eq_false hs,beq_eq_false_iff_ne.2 hs]
  rw[e]
  cases decide (cZ (bB a b c) 0=1) <;> cases z9 a b c <;> cases z9 b c a <;> cases z9 c a b <;> rfl
def tRb (A:Alg) (H:SH) (E:SE):List (Nat×bU):=(32,aC [.v] A (C1 H)) :: (62,aC [.v, .v, .v] A (zN H)) :: (63,aC [.v, .v, .v] A (an3 H E)) :: ([])
theorem asI:COK Tryz.prog (aN (tRb aA bD aoF)):=aB ak3 (aB DT (aB aoW (bC)))
theorem aoV:aJ Tryz.prog 27 (aC [.v, .v, .v] aA (apP bD aoF)):=by
 refine aH (un:=⟨false,some [3,4,5,6,7,20]⟩) tok asI aL (fn:=Tryz.f27) ?_
 intro w Wr args bs r hg ho hWr A L k hA hL hk
 obtain⟨E,hE⟩:=exE aoF
 obtain⟨H,hH⟩:=exE bD
 try rw[← hE]
 try rw[← hH]
 try rw[← hA]
 unfold apP at hg
 split at hg <;> cases hg
 rename_i a b c
 have gd:=asW a b c A hA aO rfl H hH E hE
 have gq:=asX a b c A hA H hH E hE
 have ec:=aq4 (a:=a) (b:=b) (p:=c) A hA H hH
 cbv
 repeat' with_reducible first | (intro hb;cbv) | refine UM ?_ ?_
 ·rw[ec] at hb
  have e:=gd.no hb
  refine hk _ _ (bE.pure rfl fun ρ=>?_)
  subst hH hE
  exact arE e.1 e.2
 ·rw[ec] at hb
  exact sV hA (gq.o1 hb)
 ·rw[ec] at hb
  exact sV hA (gq.o2 hb)
 ·rw[ec] at hb
  exact sV hA (gq.o3 hb)
 ·rw[ec] at hb
  have e:=gq.y hb
  have e2:=gd.ok hb
  refine hk _ _ (bE.pure rfl fun ρ=>?_)
  subst hA hH hE
  exact arD e e2
end Go.Eng
