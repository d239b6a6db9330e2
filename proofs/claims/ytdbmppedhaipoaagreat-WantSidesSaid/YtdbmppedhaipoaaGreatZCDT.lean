
import Derived.Test.YtdbmppedhaipoaaGreatZCDB
import Derived.Test.YtdbmppedhaipoaaGreatZCVB
import Derived.Test.YtdbmppedhaipoaaGreatSpecU2
import Derived.Test.YtdbmppedhaipoaaGreatEngZA
set_option linter.all false
set_option exponentiation.threshold 3000
set_option maxRecDepth 100000
set_option maxHeartbeats 2000000
namespace Go.Eng
open Go.Proofs
structure Sp (A:Alg) (U:SU) (H:SH) (V:List (Int×Int×Int)) (i:Int):Prop where
 no:A.ite (A.cmp .lss i 0) true (A.cmp .geq i (A.len V))=true→H.at_ 0 0=U.pt V i
 lo:A.ite (A.cmp .lss i 0) true (A.cmp .geq i (A.len V))=false→A.cmp .leq 0 i=true
 hi:A.ite (A.cmp .lss i 0) true (A.cmp .geq i (A.len V))=false→A.cmp .lss i (A.len V)=true
 ok:A.ite (A.cmp .lss i 0) true (A.cmp .geq i (A.len V))=false→H.at_ (A.get V i (0,0,0)).1 (A.get V i (0,0,0)).2.1=U.pt V i
 x0:A.ite (A.cmp .lss i 0) true (A.cmp .geq i (A.len V))=false→A.cmp .leq (-9223372036854775808) (A.get V i (0,0,0)).1=true
 x1:A.ite (A.cmp .lss i 0) true (A.cmp .geq i (A.len V))=false→A.cmp .lss (A.get V i (0,0,0)).1 9223372036854775808=true
 y0:A.ite (A.cmp .lss i 0) true (A.cmp .geq i (A.len V))=false→A.cmp .leq (-9223372036854775808) (A.get V i (0,0,0)).2.1=true
 y1:A.ite (A.cmp .lss i 0) true (A.cmp .geq i (A.len V))=false→A.cmp .lss (A.get V i (0,0,0)).2.1 9223372036854775808=true
theorem QI {V:List (Int×Int×Int)} (h:bN.inb V=true) (A:Alg) (hA:A=aA) (U:SU) (hU:U=bN) (H:SH) (hH:H=bD) (i:Int):Sp A U H V i:=by
 subst hA hU hH
 have e:aA.ite (aA.cmp .lss i 0) true (aA.cmp .geq i (aA.len V))= !nS V i:=by
  rw[dR]
  show(decide (i < 0)||decide (i ≥ aY V))= !(decide (0≤i)&&decide (i < aY V))
  by_cases h1:0≤i <;> by_cases h2:i < aY V <;> simp[h1,h2] <;> omega
 have b:=HM h i
 have hx:axV V i=if nS V i then(cK V i).1 else 0:=rfl
 have hy:ayV V i=if nS V i then(cK V i).2.1 else 0:=rfl
 have hp:bN.pt V i=bD.at_ (axV V i) (ayV V i):=rfl
 rw[hx,hy] at b hp
 have c0:aA.cmp .leq 0 i=decide (0≤i):=rfl
 have c1:aA.cmp .lss i (aA.len V)=decide (i < aY V):=rfl
 have hh:nS V i=(decide (0≤i)&&decide (i < aY V)):=rfl
 cases hv:nS V i
 ·rw[hv] at hp
  rw[hv] at e
  refine⟨fun _=>hp.symm,fun h=>?_,fun h=>?_,fun h=>?_,fun h=>?_,fun h=>?_,fun h=>?_,fun h=>?_⟩ <;> (rw[e] at h;cases h)
 ·rw[hv] at hp b
  rw[hv] at e
  simp only[if_true] at hp b
  rw[hh,Bool.and_eq_true] at hv
  exact⟨fun h=>(by rw[e] at h;cases h),fun _=>by rw[c0];exact hv.1,fun _=>by rw[c1];exact hv.2,fun _=>hp.symm,fun _=>bJ _ rfl _ _ b.1.1,fun _=>bH _ rfl _ _ b.1.2,fun _=>bJ _ rfl _ _ b.2.1,fun _=>bH _ rfl _ _ b.2.2⟩
def uC0 (A:Alg) (H:SH):List (Nat×bU):=(21,aC [.v, .v] A (FD A H)) :: ([])
theorem Ro:COK Tryz.prog (aN (uC0 aA bD)):=aB HZ (bC)
theorem DW:aJ Tryz.prog 63 (aR [.g [.s .i3, .s .i3, .s .pt], .a .v] aA (E8 bN)):=by
 refine aW (un:=⟨false,some [0,1,2,4,13]⟩) tok Ro aL (fn:=Tryz.f63) ?_
 intro w Wr args bs r hg ho hWr A L k hA hL hk
 obtain⟨H,hH⟩:=exE bD
 obtain⟨U,hU⟩:=exE bN
 try rw[← hH]
 try rw[← hU]
 try rw[← hA]
 unfold E8 at hg
 split at hg <;> cases hg
 rename_i i V S l
 have f:=QI (aG ho).1 A hA U hU H hH i
 clear ho
 have z0:A.cmp .leq (-9223372036854775808) 0=true:=bJ A hA _ _ (by omega)
 have z1:A.cmp .lss 0 9223372036854775808=true:=bH A hA _ _ (by omega)
 cbv
 repeat' with_reducible first | (intro hb;cbv) | refine UM ?_ ?_
 all_goals first | exact z0 | exact z1 | exact f.lo (by assumption) | exact f.hi (by assumption) | exact f.x0 (by assumption) | exact f.x1 (by assumption) | exact f.y0 (by assumption) | exact f.y1 (by assumption) | skip
 all_goals refine hk _ _ (bW.pure rfl rfl fun ρ=>dP ?_)
 ·have e:=f.no hb
  subst hU
  exact e
 ·have e:=f.ok hb
  subst hU
  exact e
structure RfF (A:Alg) (U:SU) (H:SH) (V S:List (Int×Int×Int)) (l:List Pt):Prop where
 c1:A.ite (A.ite (A.ite (A.cmp .lss (A.len V) 1) true (A.cmp .gtr (A.len V) 16)) true (A.cmp .gtr (A.len S) 16)) true (A.cmp .gtr (A.len l) 4)=true→false=U.form V S l
 lv:A.ite (A.ite (A.ite (A.cmp .lss (A.len V) 1) true (A.cmp .gtr (A.len V) 16)) true (A.cmp .gtr (A.len S) 16)) true (A.cmp .gtr (A.len l) 4)=false→aY V < 1000∧aY S < 1000∧A.cmp .lss (A.len l) 1000000=true∧
  U.form V S l=(!cY (aY V) (Cd V)&&(!cY (aY S) (zC V S)&&H.all l))
 pv: ∀ k,A.ite (A.cmp .lss (A.get V k (0,0,0)).2.2 0) true (A.cmp .gtr (A.get V k (0,0,0)).2.2 1000000)=Cd V k
 ps: ∀ k,A.ite (A.ite (A.ite (A.ite (A.ite (A.ite (A.cmp .lss (A.get S k (0,0,0)).1 0) true (A.cmp .lss (A.get S k (0,0,0)).2.1 0)) true (A.cmp .geq (A.get S k (0,0,0)).1 (A.len V))) true (A.cmp .geq (A.get S k (0,0,0)).2.1 (A.len V))) true (A.cmp .eql (A.get S k (0,0,0)).1 (A.get S k (0,0,0)).2.1)) true
  (A.cmp .lss (A.get S k (0,0,0)).2.2 0)) true (A.cmp .gtr (A.get S k (0,0,0)).2.2 1000000)=zC V S k
theorem Cc (n:Int):HL n=(decide (n < 0)||decide (n > 1000000)):=by
 unfold HL
 by_cases h1:n < 0 <;> by_cases h2:n > 1000000 <;> simp[h1,h2] <;> omega
theorem S8 (A:Alg) (hA:A=aA) (U:SU) (hU:U=bN) (H:SH) (hH:H=bD) (V S:List (Int×Int×Int)) (l:List Pt):RfF A U H V S l:=by
 subst hA hU hH
 have e0:aA.ite (aA.ite (aA.ite (aA.cmp .lss (aA.len V) 1) true (aA.cmp .gtr (aA.len V) 16)) true (aA.cmp .gtr (aA.len S) 16)) true (aA.cmp .gtr (aA.len l) 4)=pB V S l:=by
  rw[dR,dR,dR,Bool.or_assoc,Bool.or_assoc]
  show(decide (aY V < 1)||_)=(decide (aY V=0)||_)
  have:decide (aY V < 1)=decide (aY V=0):=by
   have h0:0≤aY V:=Int.natCast_nonneg _
   exact decide_eq_decide.2 (by omega)
  rw[this];rfl
 have ef:bN.form V S l=(!pB V S l&&(!cY (aY V) (Cd V)&&(!cY (aY S) (zC V S)&&bD.all l))):=rfl
 refine⟨fun h=>?_,fun h=>?_,fun k=>?_,fun k=>?_⟩
 ·rw[e0] at h;rw[ef,h];rfl
 ·rw[e0] at h
  refine⟨?_,?_,?_,by rw[ef,h];rfl⟩
  all_goals (unfold pB at h;simp only[Bool.or_eq_false_iff,decide_eq_false_iff_not] at h)
  ·omega
  ·omega
  ·have h4:=h.2.2.2
   unfold aY at h4
   exact bH _ rfl _ _ (by show(l.length:Int) < 1000000;omega)
 ·rw[dR];show _=HL _;rw[Cc];rfl
 ·simp only[dR,fG]
  unfold zC nS
  rw[Cc]
  show((((((decide ((cK S k).1 < 0)||decide ((cK S k).2.1 < 0))||decide ((cK S k).1 ≥ aY V))||decide ((cK S k).2.1 ≥ aY V))||decide ((cK S k).1=(cK S k).2.1))||decide ((cK S k).2.2 < 0))||decide ((cK S k).2.2 > 1000000))=_
  generalize (cK S k).1=a
  generalize (cK S k).2.1=b
  generalize (cK S k).2.2=c
  have e1: ∀ a:Int,(!(decide (0≤a)&&decide (a < aY V)))=(decide (a < 0)||decide (a ≥ aY V)):=fun a=>by
   by_cases h1:0≤a <;> by_cases h2:a < aY V <;> simp[h1,h2] <;> omega
  rw[e1,e1]
  cases decide (a < 0) <;> cases decide (b < 0) <;> cases decide (a ≥ aY V) <;> cases decide (b ≥ aY V) <;> cases decide (a=b) <;> cases decide (c < 0) <;> rfl
def uC1 (A:Alg) (H:SH):List (Nat×bU):=(62,aC [.s .pt] A (uH A H)) :: ([])
theorem EY:COK Tryz.prog (aN (uC1 aA bD)):=aB KK (bC)
theorem Gt:aJ Tryz.prog 35 (aR [.g [.s .i3, .s .i3, .s .pt]] aA (sR bN)):=by
 refine aW (un:=⟨false,some [0,1,2,3,4,5,27,32,50,55,103]⟩) tok EY aL (fn:=Tryz.f35) ?_
 intro w Wr args bs r hg ho hWr A L k hA hL hk
 obtain⟨H,hH⟩:=exE bD
 obtain⟨U,hU⟩:=exE bN
 try rw[← hH]
 try rw[← hU]
 try rw[← hA]
 unfold sR at hg
 split at hg <;> cases hg
 rename_i V S l
 have f:=S8 A hA U hU H hH V S l
 have i0:AnI (aY V) (Cd V) 0:=cH (Int.natCast_nonneg _)
 have i1:AnI (aY S) (zC V S) 0:=cH (Int.natCast_nonneg _)
 clear ho
 cbv
 repeat' with_reducible first | (intro hb;cbv) | refine UM ?_ ?_
 ·refine hk _ _ (bW.pure rfl rfl fun ρ=>?_)
  have e:=f.c1 hb
  subst hU
  exact dT e
 obtain⟨lv,ls,ll,er⟩:=f.lv hb
 have pv:=f.pv
 have ps:=f.ps
 clear f hb
 refine hL _ _ _ (aQ (un:=⟨false,some [0,1,2,3,4,5,27,32,50,55,103]⟩) tok EY aL (fun k:Int=>⟨[(3,⟨[], .c (.s (.int .i64 k))⟩),(2,⟨[], .c (.s (.tt false))⟩),(1,⟨[], .c (.s (.hp 3 0))⟩)],[(3, .fix true [.s (.hs 0), .s (.hs 1), .s (.hs 2)]),(0, .vec false .i3 V),(1, .vec false .i3 S),(2, .vec false .pt l)],4⟩) (fun k=>AnI (aY V) (Cd V) k) (fun k=>(aY V - k).toNat) 0 i0 ?_ (fun _ i hi=>by have:=hWr i hi;simp at this;show i < 4;omega) ?_)
 ·exact⟨⟨⟨rfl,rfl,fun _=>rfl⟩,⟨rfl,rfl,fun _=>rfl⟩,⟨rfl,rfl,fun _=>rfl⟩,trivial⟩,⟨aF rfl,aF rfl,aF rfl,aF rfl,trivial⟩,rfl,rfl⟩
 clear i0
 rintro k hI2 A2 L2 k2 hA2 hL2 hnext2 hexit2 hret2
 have hn2:A2.len V=aY V:=by subst hA2;rfl
 have st2:=fun hb:A2.cmp .lss k (A2.len V)=true=>c9 hI2 (by omega) A2 hA2 (by rw[← hn2];exact hb)
 have en2:=fun hb:A2.cmp .lss k (A2.len V)=false=>eK hI2 A2 hA2 (by rw[← hn2];exact hb)
 clear hI2
 rw[hA, ← hA2] at pv
 rw[← hA2, ← hH]
 cbv
 repeat' with_reducible first | (intro hb;cbv) | refine UM ?_ ?_
 all_goals first | exact(st2 hb).o1 | exact hb | exact sV hA2 (st2 hb).o1 | exact sV hA2 hb | skip
 ·rename_i hb0
  rw[pv] at hb
  have e:=(st2 hb0).ht hb
  apply hret2
  clear hexit2 hnext2 hret2 st2 en2
  cbv
  refine hk _ _ (bW.pure rfl rfl fun ρ=>dT ?_)
  rw[e] at er
  subst hU
  exact er.symm
 ·rename_i hb0
  rw[pv] at hb
  refine hnext2 _ (k+1) ((st2 hb0).nx hb) (st2 hb0).ms ?_
  have ead:=(st2 hb0).ad
  subst hA2 hA
  exact⟨⟨⟨rfl,rfl,leI ead⟩,⟨rfl,rfl,fun _=>rfl⟩,⟨rfl,rfl,fun _=>rfl⟩,trivial⟩,⟨aF rfl,aF rfl,aF rfl,aF rfl,trivial⟩,rfl,rfl⟩
 have ev:=(en2 hb).no
 apply hexit2
 clear hexit2 hnext2 hret2 st2 en2 pv
 rw[ev] at er
 clear ev hb hL2
 cbv
 refine hL _ _ _ (aQ (un:=⟨false,some [0,1,2,3,4,5,27,32,50,55,103]⟩) tok EY aL (fun k:Int=>⟨[(4,⟨[], .c (.s (.int .i64 k))⟩),(2,⟨[], .c (.s (.tt false))⟩),(1,⟨[], .c (.s (.hp 3 0))⟩)],[(3, .fix true [.s (.hs 0), .s (.hs 1), .s (.hs 2)]),(0, .vec false .i3 V),(1, .vec false .i3 S),(2, .vec false .pt l)],4⟩) (fun k=>AnI (aY S) (zC V S) k) (fun k=>(aY S - k).toNat) 0 i1 ?_ (fun _ i hi=>by have:=hWr i hi;simp at this;show i < 4;omega) ?_)
 ·exact⟨⟨⟨rfl,rfl,fun _=>rfl⟩,⟨rfl,rfl,fun _=>rfl⟩,⟨rfl,rfl,fun _=>rfl⟩,trivial⟩,⟨aF rfl,aF rfl,aF rfl,aF rfl,trivial⟩,rfl,rfl⟩
 clear i1
 rintro k hI3 A3 L3 k3 hA3 hL3 hnext3 hexit3 hret3
 have hn3:A3.len S=aY S:=by subst hA3;rfl
 have st3:=fun hb:A3.cmp .lss k (A3.len S)=true=>c9 hI3 (by omega) A3 hA3 (by rw[← hn3];exact hb)
 have en3:=fun hb:A3.cmp .lss k (A3.len S)=false=>eK hI3 A3 hA3 (by rw[← hn3];exact hb)
 clear hI3
 rw[hA, ← hA3] at ps
 rw[← hA3, ← hH]
 cbv
 repeat' with_reducible first | (intro hb;cbv) | refine UM ?_ ?_
 all_goals first | exact(st3 hb).o1 | exact hb | exact sV hA3 (st3 hb).o1 | exact sV hA3 hb | skip
 ·rename_i hb0
  rw[ps] at hb
  have e:=(st3 hb0).ht hb
  apply hret3
  clear hexit3 hnext3 hret3 st3 en3
  cbv
  refine hk _ _ (bW.pure rfl rfl fun ρ=>dT ?_)
  rw[e] at er
  subst hU
  exact er.symm
 ·rename_i hb0
  rw[ps] at hb
  refine hnext3 _ (k+1) ((st3 hb0).nx hb) (st3 hb0).ms ?_
  have ead:=(st3 hb0).ad
  subst hA3 hA
  exact⟨⟨⟨rfl,rfl,leI ead⟩,⟨rfl,rfl,fun _=>rfl⟩,⟨rfl,rfl,fun _=>rfl⟩,trivial⟩,⟨aF rfl,aF rfl,aF rfl,aF rfl,trivial⟩,rfl,rfl⟩
 have ev:=(en3 hb).no
 apply hexit3
 clear hexit3 hnext3 hret3 st3 en3 ps
 rw[ev] at er
 clear ev hb hL3
 cbv
 repeat' with_reducible first | (intro hb;cbv) | refine UM ?_ ?_
 ·exact ll
 refine hk _ _ (bW.pure rfl rfl fun ρ=>dB ?_)
 subst hU hH
 exact er.symm
def PP (A:Alg) (O:SO):List CV→List Blk→Option LW
 | [.g [.s (.hs 0), .s (.hs 1), .s (.hs 2)], .s (.int .i64 v)],[.vec false .i3 V, .vec false .i3 S, .vec false .pt l]=>some ⟨[A.cmp .lss (A.len S) 1000000], .c (.s (.int .i64 (O.deg S v))),[],[]⟩
 | _,_=>none
structure DgI (S:List (Int×Int×Int)) (k:Int):Prop where
 k0:0≤k
 k1:k≤aY S
structure DgS (A:Alg) (O:SO) (S:List (Int×Int×Int)) (v k:Int):Prop where
 o1:A.cmp .leq 0 k=true
 t:A.ite (A.cmp .eql (A.get S k (0,0,0)).1 v) true (A.cmp .eql (A.get S k (0,0,0)).2.1 v)=true→A.bin .add .i64 (O.degK S v k) 1=O.degK S v (k+1)
 f:A.ite (A.cmp .eql (A.get S k (0,0,0)).1 v) true (A.cmp .eql (A.get S k (0,0,0)).2.1 v)=false→O.degK S v k=O.degK S v (k+1)
 I:DgI S (k+1)
 ad:A.bin .add .i64 k 1=k+1
 ms:(aY S - (k+1)).toNat < (aY S - k).toNat
theorem IW {S:List (Int×Int×Int)} (hl:aY S < 1000000) {v k:Int} (hI:DgI S k) (A:Alg) (hA:A=aA) (O:SO) (hO:O=pE) (hb:A.cmp .lss k (A.len S)=true):DgS A O S v k:=by
 subst hA hO
 have hb:k < aY S:=of_decide_eq_true hb
 obtain⟨k0,k1⟩:=hI
 have e:aA.ite (aA.cmp .eql (aA.get S k (0,0,0)).1 v) true (aA.cmp .eql (aA.get S k (0,0,0)).2.1 v)=tS (cK S k) v:=by
  rw[dR,fG,fG];rfl
 have hk:((k.toNat:Nat):Int)=k:=by omega
 have en:pE.degK S v (k+1)=if tS (cK S k) v then aD .add .i64 (pE.degK S v k) 1 else pE.degK S v k:=by
  show sK S v (k+1).toNat=_
  rw[show(k+1).toNat=k.toNat+1 from by omega]
  show(if tS (cK S ((k.toNat:Nat):Int)) v then _ else _)=_
  rw[hk];rfl
 refine⟨decide_eq_true k0,fun h=>?_,fun h=>?_,⟨by omega,by omega⟩,?_,by omega⟩
 ·rw[e] at h;rw[en,h];rfl
 ·rw[e] at h;rw[en,h];rfl
 ·show IntKind.i64.wrap (k+1)=k+1
  rw[IntKind.wrap_i64];omega
theorem KN:aJ Tryz.prog 36 (aR [.g [.s .i3, .s .i3, .s .pt], .a .v] aA (PP aA pE)):=by
 refine aW (un:=⟨false,some [0,1,2,4,5,6,11,31]⟩) tok EY aL (fn:=Tryz.f36) ?_
 intro w Wr args bs r hg ho hWr A L k hA hL hk
 obtain⟨H,hH⟩:=exE bD
 obtain⟨O,hO⟩:=exE pE
 try rw[← hH]
 try rw[← hO]
 try rw[← hA]
 unfold PP at hg
 split at hg <;> cases hg
 rename_i v V S l
 have hlen:=(aG ho).1
 simp only[aA,aP,decide_eq_true_eq] at hlen
 have hlen:aY S < 1000000:=by unfold aY;omega
 clear ho
 have i0:DgI S 0:=⟨Int.le_refl _,Int.natCast_nonneg _⟩
 have z:(0:Int)=O.degK S v 0:=by subst hO;rfl
 have er: ∀ k,DgI S k→ ¬ k < aY S→O.degK S v k=O.deg S v:=fun k hI h=>by
  obtain⟨k0,k1⟩:=hI
  subst hO
  show sK S v k.toNat=sK S v S.length
  rw[show k.toNat=S.length from by unfold aY at h k1;omega]
 cbv
 refine hL _ _ _ (aQ (un:=⟨false,some [0,1,2,4,5,6,11,31]⟩) tok EY aL (fun k:Int=>⟨[(6,⟨[], .c (.s (.int .i64 k))⟩),(5,⟨[], .c (.s (.int .i64 (O.degK S v k)))⟩),(4,⟨[], .c (.s (.lit .i64 0))⟩),(2,⟨[], .c (.s (.hp 3 0))⟩),(1,⟨[], .c (.s (.int .i64 v))⟩)],[(3, .fix true [.s (.hs 0), .s (.hs 1), .s (.hs 2)]),(0, .vec false .i3 V),(1, .vec false .i3 S),(2, .vec false .pt l)],4⟩)
  (fun k=>DgI S k) (fun k=>(aY S - k).toNat) 0 i0 ?_ (fun _ i hi=>by have:=hWr i hi;simp at this;show i < 4;omega) ?_)
 ·exact⟨⟨⟨rfl,rfl,fun _=>rfl⟩,⟨rfl,rfl,SQ z⟩,⟨rfl,rfl,fun _=>rfl⟩,⟨rfl,rfl,fun _=>rfl⟩,⟨rfl,rfl,fun _=>rfl⟩,trivial⟩,⟨aF rfl,aF rfl,aF rfl,aF rfl,trivial⟩,rfl,rfl⟩
 clear i0 z
 rintro k hI A2 L2 k2 hA2 hL2 hnext hexit hret
 have st:=fun hb:A2.cmp .lss k (A2.len S)=true=>IW (v:=v) hlen hI A2 hA2 O hO hb
 have en:A2.cmp .lss k (A2.len S)=false→O.degK S v k=O.deg S v:=fun hb=>er k hI (by subst hA2;exact of_decide_eq_false hb)
 clear hI er
 rw[← hA2]
 cbv
 repeat' with_reducible first | (intro hb;cbv) | refine UM ?_ ?_
 all_goals first | exact(st hb).o1 | exact hb | exact sV hA2 (st hb).o1 | exact sV hA2 hb | skip
 ·rename_i hb0
  refine hnext _ (k+1) (st hb0).I (st hb0).ms ?_
  have ead:=(st hb0).ad
  have et:=(st hb0).t hb
  subst hA2 hA
  exact⟨⟨⟨rfl,rfl,leI ead⟩,⟨rfl,rfl,leI et⟩,⟨rfl,rfl,fun _=>rfl⟩,⟨rfl,rfl,fun _=>rfl⟩,⟨rfl,rfl,fun _=>rfl⟩,trivial⟩,⟨aF rfl,aF rfl,aF rfl,aF rfl,trivial⟩,rfl,rfl⟩
 ·rename_i hb0
  refine hnext _ (k+1) (st hb0).I (st hb0).ms ?_
  have ead:=(st hb0).ad
  have et:=(st hb0).f hb
  subst hA2 hA
  exact⟨⟨⟨rfl,rfl,leI ead⟩,⟨rfl,rfl,leI et⟩,⟨rfl,rfl,fun _=>rfl⟩,⟨rfl,rfl,fun _=>rfl⟩,⟨rfl,rfl,fun _=>rfl⟩,trivial⟩,⟨aF rfl,aF rfl,aF rfl,aF rfl,trivial⟩,rfl,rfl⟩
 ·have e:=en hb
  apply hexit
  clear hexit hnext hret st en
  cbv
  refine hk _ _ (bW.pure rfl rfl fun ρ=>dI ?_)
  subst hO
  exact e
def ZU (A:Alg) (U:SU) (O:SO):List CV→List Blk→Option LW
 | [.g [.s (.hs 0), .s (.hs 1), .s (.hs 2)], .s (.int .i64 i), .s (.int .i64 j)],[.vec false .i3 V, .vec false .i3 S, .vec false .pt l]=>
  some ⟨[U.inb V,A.cmp .leq 0 i,A.cmp .lss i (A.len S),A.cmp .leq 0 j,A.cmp .lss j (A.len S)], .c (.s (.bool (O.cross V S i j))),[],[]⟩
 | _,_=>none
structure CoF (A:Alg) (U:SU) (J:SJ) (O:SO) (V S:List (Int×Int×Int)) (i j:Int) (s t:Int×Int×Int) (m:Int):Prop where
 r:A.ite (A.cmp .eql m 2) true (A.ite (A.ite (A.ite (A.ite (A.cmp .eql m 1) (A.cmp .neq s.1 t.1) false) (A.cmp .neq s.1 t.2.1) false) (A.cmp .neq s.2.1 t.1) false) (A.cmp .neq s.2.1 t.2.1) false)=O.cross V S i j
theorem Sz (A:Alg) (hA:A=aA) (U:SU) (hU:U=bN) (J:SJ) (hJ:J=kM) (O:SO) (hO:O=pE) (V S:List (Int×Int×Int)) (i j:Int) (s t:Int×Int×Int) (hs:s=A.get S i (0,0,0)) (ht:t=A.get S j (0,0,0)) (m:Int) (hm:m=J.meet (U.pt V s.1) (U.pt V s.2.1) (U.pt V t.1) (U.pt V t.2.1)):CoF A U J O V S i j s t m:=by
 subst hA hU hJ hO
 refine⟨?_⟩
 have n: ∀ a b:Int,aA.cmp .neq a b= !decide (a=b):=fun a b=>by
  show(a != b)= !decide (a=b)
  by_cases h:a=b <;> simp[h]
 simp only[dR,gF,fG,n,Bool.and_assoc]
 subst hm hs ht
 rfl
def uC2 (A:Alg) (H:SH) (U:SU) (J:SJ):List (Nat×bU):=(63,aR [.g [.s .i3, .s .i3, .s .pt], .a .v] A (E8 U)) :: (33,aC [.v, .v, .v, .v] A (JD H J)) :: ([])
theorem Rp:COK Tryz.prog (aN (uC2 aA bD bN kM)):=aB DW (aB Gp (bC))
theorem DV:aJ Tryz.prog 37 (aR [.g [.s .i3, .s .i3, .s .pt], .a .v, .a .v] aA (ZU aA bN pE)):=by
 refine aW (un:=⟨false,some [0,1,2,3,6,7,8,9]⟩) tok Rp aL (fn:=Tryz.f37) ?_
 intro w Wr args bs r hg ho hWr A L k hA hL hk
 obtain⟨H,hH⟩:=exE bD
 obtain⟨J,hJ⟩:=exE kM
 obtain⟨O,hO⟩:=exE pE
 obtain⟨U,hU⟩:=exE bN
 try rw[← hH]
 try rw[← hJ]
 try rw[← hO]
 try rw[← hU]
 try rw[← hA]
 unfold ZU at hg
 split at hg <;> cases hg
 rename_i i j V S l
 have o0:=(aG ho).1
 have o1:=(aG (aG ho).2).1
 have o2:=(aG (aG (aG ho).2).2).1
 have o3:=(aG (aG (aG (aG ho).2).2).2).1
 have o4:=(aG (aG (aG (aG (aG ho).2).2).2).2).1
 clear ho
 rw[← hA] at o1 o2 o3 o4
 rw[← hU] at o0
 have f:=Sz A hA U hU J hJ O hO V S i j _ _ rfl rfl _ rfl
 cbv
 repeat' with_reducible first | (intro hb;cbv) | refine UM ?_ ?_
 all_goals first | exact o0 | exact o1 | exact o2 | exact o3 | exact o4 | skip
 refine hk _ _ (bW.pure rfl rfl fun ρ=>dB ?_)
 have r:=f.r
 subst hU hA hO
 exact r
def CY (A:Alg) (U:SU) (O:SO):List CV→List Blk→Option LW
 | [.g [.s (.hs 0), .s (.hs 1), .s (.hs 2)], .g [.P p]],[.vec false .i3 V, .vec false .i3 S, .vec false .pt l]=>some ⟨[U.inb V,A.cmp .lss (A.len S) 1000000], .c (.s (.bool (O.hole V S p))),[],[]⟩
 | _,_=>none
structure Hl9 (p:Pt) (k:Nat):Prop where
 k2:k≤2
 x:1≤k→GU p.X=false
 y:2≤k→GU p.Y=false
structure Ho9 (A:Alg) (O:SO) (V S:List (Int×Int×Int)) (p:Pt):Prop where
 x:O.outR p.X=true→true=O.hole V S p
 y:O.outR p.Y=true→true=O.hole V S p
 h:cY (aY S) (E9 V S p)=true→true=O.hole V S p
 r:O.outR p.X=false→O.outR p.Y=false→cY (aY S) (E9 V S p)=false→false=O.hole V S p
theorem P5 (A:Alg) (O:SO) (hO:O=pE) (V S:List (Int×Int×Int)) (p:Pt):Ho9 A O V S p:=by
 subst hO
 have e:pE.hole V S p=(pE.outR p.X||(pE.outR p.Y||cY (aY S) (E9 V S p))):=rfl
 refine⟨fun h=>?_,fun h=>?_,fun h=>?_,fun h1 h2 h3=>?_⟩
 ·rw[e,h];rfl
 ·rw[e,h];cases pE.outR p.X <;> rfl
 ·rw[e,h];cases pE.outR p.X <;> cases pE.outR p.Y <;> rfl
 ·rw[e,h1,h2,h3];rfl
def uC3 (A:Alg) (F:SF) (H:SH) (U:SU) (J:SJ):List (Nat×bU):=(63,aR [.g [.s .i3, .s .i3, .s .pt], .a .v] A (E8 U)) :: (44,aC [.v] A (qO A H)) :: (61,aC [.v, .v] A (A1 F)) :: (60,aC [.v] A (lQ F)) :: (64,aC [.v, .v, .v] A (Mn A H J)) :: ([])
theorem Mf:COK Tryz.prog (aN (uC3 aA aO bD bN kM)):=aB DW (aB rC (aB Gs (aB nI (aB N6 (bC)))))
theorem Gv:aJ Tryz.prog 38 (aR [.g [.s .i3, .s .i3, .s .pt], .a .v] aA (CY aA bN pE)):=by
 refine aW (un:=⟨false,some [0,1,2,3,4,5,6,7,9,10,13,19,34,39,63]⟩) tok Mf aL (fn:=Tryz.f38) ?_
 intro w Wr args bs r hg ho hWr A L k hA hL hk
 obtain⟨F,hF⟩:=exE aO
 obtain⟨H,hH⟩:=exE bD
 obtain⟨J,hJ⟩:=exE kM
 obtain⟨O,hO⟩:=exE pE
 obtain⟨U,hU⟩:=exE bN
 try rw[← hF]
 try rw[← hH]
 try rw[← hJ]
 try rw[← hO]
 try rw[← hU]
 try rw[← hA]
 unfold CY at hg
 split at hg <;> cases hg
 rename_i p V S l
 have hin:U.inb V=true:=by rw[hU];exact(aG ho).1
 have hlen:=(aG (aG ho).2).1
 simp only[aA,aP,decide_eq_true_eq] at hlen
 have hlen:aY S < 1000000:=by unfold aY;omega
 clear ho
 have f:=P5 A O hO V S p
 have z2:A.cmp .leq (-9223372036854775808) 64=true:=bJ A hA _ _ (by omega)
 have z3:A.cmp .lss 64 9223372036854775808=true:=bH A hA _ _ (by omega)
 have i1:AnI (aY S) (E9 V S p) 0:=cH (Int.natCast_nonneg _)
 cbv
 refine hL _ _ _ (aQ (un:=⟨false,some [0,1,2,3,4,5,6,7,9,10,13,19,34,39,63]⟩) tok Mf aL (fun k:Nat=>⟨[(5,⟨[], .c (.s (.lit .i64 k))⟩),(4,⟨[], .c (.s (.tt false))⟩),(3,⟨[], .c (.s (.hp 4 0))⟩),(2,⟨[], .c (.s (.hp 3 0))⟩)],[(4, .fix true [.P p]),(3, .fix true [.s (.hs 0), .s (.hs 1), .s (.hs 2)]),(0, .vec false .i3 V),(1, .vec false .i3 S),(2, .vec false .pt l)],5⟩)
  (fun k=>Hl9 p k) (fun k=>2 - k) 0 ⟨by omega,fun h=>absurd h (by omega),fun h=>absurd h (by omega)⟩ ?_ (fun _ i hi=>by have:=hWr i hi;simp at this;show i < 5;omega) ?_)
 ·exact⟨⟨⟨rfl,rfl,fun _=>rfl⟩,⟨rfl,rfl,fun _=>rfl⟩,⟨rfl,rfl,fun _=>rfl⟩,⟨rfl,rfl,fun _=>rfl⟩,trivial⟩,⟨aF rfl,aF rfl,aF rfl,aF rfl,aF rfl,trivial⟩,rfl,rfl⟩
 rintro k0 hI A2 L2 k2 hA2 hL2 hnext hexit hret
 have hk2:=hI.k2
 rcases(show k0=0∨k0=1∨k0=2 by omega) with rfl | rfl | rfl
 ·clear hI
  rw[hA, ← hA2] at z2 z3
  have r:A2.ite (A2.cmp .leq (F.sign p.X) 0) true (A2.cmp .geq (F.cmp p.X (H.whole 64)) 0)=O.outR p.X:=by subst hA2 hF hH hO;rw[dR];rfl
  rw[← hA2, ← hF, ← hU, ← hH, ← hJ]
  cbv
  repeat' first | ((with_reducible intro hb);cbv) | with_reducible refine And.intro ?_ ?_
  all_goals first | exact z2 | exact z3 | skip
  ·rw[r] at hb
   apply hret
   clear hexit hnext hret
   cbv
   refine hk _ _ (bW.pure rfl rfl fun ρ=>dT ?_)
   have e:=f.x hb
   subst hO
   exact e
  ·rw[r] at hb
   refine hnext _ 1 ?_ (by omega) ?_
   ·exact⟨by omega,fun _=>(by subst hO;exact hb),fun h=>absurd h (by omega)⟩
   ·exact⟨⟨⟨rfl,rfl,fun _=>rfl⟩,⟨rfl,rfl,fun _=>rfl⟩,⟨rfl,rfl,fun _=>rfl⟩,⟨rfl,rfl,fun _=>rfl⟩,trivial⟩,⟨aF rfl,aF rfl,aF rfl,aF rfl,aF rfl,trivial⟩,rfl,rfl⟩
 ·rw[hA, ← hA2] at z2 z3
  have r:A2.ite (A2.cmp .leq (F.sign p.Y) 0) true (A2.cmp .geq (F.cmp p.Y (H.whole 64)) 0)=O.outR p.Y:=by subst hA2 hF hH hO;rw[dR];rfl
  rw[← hA2, ← hF, ← hU, ← hH, ← hJ]
  cbv
  repeat' first | ((with_reducible intro hb);cbv) | with_reducible refine And.intro ?_ ?_
  all_goals first | exact z2 | exact z3 | skip
  ·rw[r] at hb
   apply hret
   clear hexit hnext hret
   cbv
   refine hk _ _ (bW.pure rfl rfl fun ρ=>dT ?_)
   have e:=f.y hb
   subst hO
   exact e
  ·rw[r] at hb
   refine hnext _ 2 ?_ (by omega) ?_
   ·exact⟨by omega,fun _=>hI.x (by omega),fun _=>(by subst hO;exact hb)⟩
   ·exact⟨⟨⟨rfl,rfl,fun _=>rfl⟩,⟨rfl,rfl,fun _=>rfl⟩,⟨rfl,rfl,fun _=>rfl⟩,⟨rfl,rfl,fun _=>rfl⟩,trivial⟩,⟨aF rfl,aF rfl,aF rfl,aF rfl,aF rfl,trivial⟩,rfl,rfl⟩
 have hx:=hI.x (by omega)
 have hy:=hI.y (by omega)
 clear hI
 rw[← hA2, ← hF, ← hU, ← hH, ← hJ]
 cbv
 apply hexit
 clear hexit hnext hret hL2
 cbv
 refine hL _ _ _ (aQ (un:=⟨false,some [0,1,2,3,4,5,6,7,9,10,13,19,34,39,63]⟩) tok Mf aL (fun k:Int=>⟨[(9,⟨[], .c (.s (.int .i64 k))⟩),(4,⟨[], .c (.s (.tt false))⟩),(3,⟨[], .c (.s (.hp 4 0))⟩),(2,⟨[], .c (.s (.hp 3 0))⟩)],[(4, .fix true [.P p]),(3, .fix true [.s (.hs 0), .s (.hs 1), .s (.hs 2)]),(0, .vec false .i3 V),(1, .vec false .i3 S),(2, .vec false .pt l)],5⟩) (fun k=>AnI (aY S) (E9 V S p) k) (fun k=>(aY S - k).toNat) 0 i1 ?_ (fun _ i hi=>by have:=hWr i hi;simp at this;show i < 5;omega) ?_)
 ·exact⟨⟨⟨rfl,rfl,fun _=>rfl⟩,⟨rfl,rfl,fun _=>rfl⟩,⟨rfl,rfl,fun _=>rfl⟩,⟨rfl,rfl,fun _=>rfl⟩,trivial⟩,⟨aF rfl,aF rfl,aF rfl,aF rfl,aF rfl,trivial⟩,rfl,rfl⟩
 clear i1
 rintro k hI3 A3 L3 k3 hA3 hL3 hnext3 hexit3 hret3
 have hn3:A3.len S=aY S:=by subst hA3;rfl
 have st3:=fun hb:A3.cmp .lss k (A3.len S)=true=>c9 hI3 (by omega) A3 hA3 (by rw[← hn3];exact hb)
 have en3:=fun hb:A3.cmp .lss k (A3.len S)=false=>eK hI3 A3 hA3 (by rw[← hn3];exact hb)
 have hh:A3.ite (H.all [U.pt V (A3.get S k (0,0,0)).1,U.pt V (A3.get S k (0,0,0)).2.1,p]) (J.on (U.pt V (A3.get S k (0,0,0)).1) (U.pt V (A3.get S k (0,0,0)).2.1) p) false=E9 V S p k:=by
  subst hA3 hU hH hJ
  rw[gF];rfl
 clear hI3
 rw[← hA3, ← hF, ← hU, ← hH, ← hJ]
 cbv
 repeat' with_reducible first | (intro hb;cbv) | refine UM ?_ ?_
 all_goals first | exact(st3 hb).o1 | exact hb | exact hin | skip
 ·rename_i hb0
  rw[hh] at hb
  have e:=f.h ((st3 hb0).ht hb)
  apply hret3
  clear hexit3 hnext3 hret3 st3 en3
  cbv
  refine hk _ _ (bW.pure rfl rfl fun ρ=>dT ?_)
  subst hO
  exact e
 ·rename_i hb0
  rw[hh] at hb
  refine hnext3 _ (k+1) ((st3 hb0).nx hb) (st3 hb0).ms ?_
  have ead:=(st3 hb0).ad
  subst hA3 hA
  exact⟨⟨⟨rfl,rfl,leI ead⟩,⟨rfl,rfl,fun _=>rfl⟩,⟨rfl,rfl,fun _=>rfl⟩,⟨rfl,rfl,fun _=>rfl⟩,trivial⟩,⟨aF rfl,aF rfl,aF rfl,aF rfl,aF rfl,trivial⟩,rfl,rfl⟩
 have e:=f.r (by rw[hO];exact hx) (by rw[hO];exact hy) (en3 hb).no
 apply hexit3
 clear hexit3 hnext3 hret3 st3 en3
 cbv
 refine hk _ _ (bW.pure rfl rfl fun ρ=>dT ?_)
 subst hO
 exact e
def xV (U:SU) (O:SO):List CV→List Blk→Option LW
 | [.g [.s (.hs 0), .s (.hs 1), .s (.hs 2)]],[.vec false .i3 V, .vec false .i3 S, .vec false .pt l]=>some ⟨[U.inb V], .c (.s (.int .i64 (O.check V S l))),[],[]⟩
 | _,_=>none
theorem CM {V S:List (Int×Int×Int)} {l:List Pt} (h:iO V S l=true):aY V < 1000∧aY S < 1000∧aY l < 1000:=by
 unfold iO at h
 simp only[Bool.and_eq_true,Bool.not_eq_true'] at h
 have h0:=h.1
 unfold pB at h0
 simp only[Bool.or_eq_false_iff,decide_eq_false_iff_not] at h0
 omega
structure Ck9 (A:Alg) (U:SU) (O:SO) (V S:List (Int×Int×Int)) (l:List Pt):Prop where
 c1:A.not (U.form V S l)=true→10=O.check V S l
 f:A.not (U.form V S l)=false→aY V < 1000∧aY S < 1000∧aY l < 1000
 e:A.not (U.form V S l)=false→O.check V S l=if cY (aY V) (fun k=>FA (cK V k))=true then 13 else if cY (aY V) (fun i=>cY i fun j=>Zz V i j)=true then 14 else if cY (aY V) (fun k=>decide (sK S k S.length≠2))=true then 15 else
  if cY (aY S) (fun i=>cY i fun j=>j3 V S i j)=true then 16 else if cY (aY l) (fun k=>rY V S (pC l k))=true then 17 else 0
theorem PG (A:Alg) (hA:A=aA) (U:SU) (hU:U=bN) (O:SO) (hO:O=pE) (V S:List (Int×Int×Int)) (l:List Pt):Ck9 A U O V S l:=by
 subst hA hU hO
 have e:pE.check V S l=if !bN.form V S l then 10 else if cY (aY V) (fun k=>FA (cK V k))=true then 13 else if cY (aY V) (fun i=>cY i fun j=>Zz V i j)=true then 14 else if cY (aY V) (fun k=>decide (sK S k S.length≠2))=true then 15 else
  if cY (aY S) (fun i=>cY i fun j=>j3 V S i j)=true then 16 else if cY (aY l) (fun k=>rY V S (pC l k))=true then 17 else 0:=rfl
 have n: ∀ b,aA.not b= !b:=fun b=>rfl
 refine⟨fun h=>?_,fun h=>?_,fun h=>?_⟩
 ·rw[n] at h;rw[e,h];rfl
 ·rw[n,Bool.not_eq_false'] at h
  exact CM h
 ·rw[n] at h;rw[e,h];rfl
def uC5 (A:Alg) (U:SU) (O:SO):List (Nat×bU):=(35,aR [.g [.s .i3, .s .i3, .s .pt]] A (sR U)) :: (36,aR [.g [.s .i3, .s .i3, .s .pt], .a .v] A (PP A O)) :: (37,aR [.g [.s .i3, .s .i3, .s .pt], .a .v, .a .v] A (ZU A U O)) :: (38,aR [.g [.s .i3, .s .i3, .s .pt], .a .v] A (CY A U O)) :: ([])
theorem wR:COK Tryz.prog (aN (uC5 aA bN pE)):=aB Gt (aB KN (aB DV (aB Gv (bC))))
theorem DU:aJ Tryz.prog 14 (aR [.g [.s .i3, .s .i3, .s .pt]] aA (xV bN pE)):=by
 refine aW (un:=⟨false,some [0,1,2,3,4,5,6,7,8,9,10,13,18,43,48,53,83,88,94,99,104,110,115,124]⟩) tok wR aL (fn:=Tryz.f14) ?_
 intro w Wr args bs r hg ho hWr A L k hA hL hk
 obtain⟨O,hO⟩:=exE pE
 obtain⟨U,hU⟩:=exE bN
 try rw[← hO]
 try rw[← hU]
 try rw[← hA]
 unfold xV at hg
 split at hg <;> cases hg
 rename_i V S l
 have hin:U.inb V=true:=by rw[hU];exact(aG ho).1
 clear ho
 have f:=PG A hA U hU O hO V S l
 have i1:AnI (aY V) (fun k=>FA (cK V k)) 0:=cH (Int.natCast_nonneg _)
 have i2:AnI (aY V) (fun i=>cY i fun j=>Zz V i j) 0:=cH (Int.natCast_nonneg _)
 have i3:AnI (aY V) (fun k=>decide (sK S k S.length≠2)) 0:=cH (Int.natCast_nonneg _)
 have i4:AnI (aY S) (fun i=>cY i fun j=>j3 V S i j) 0:=cH (Int.natCast_nonneg _)
 have i5:AnI (aY l) (fun k=>rY V S (pC l k)) 0:=cH (Int.natCast_nonneg _)
 have p1: ∀ k,A.ite (A.ite (A.ite (A.cmp .lss (A.get V k (0,0,0)).1 0) true (A.cmp .lss (A.get V k (0,0,0)).2.1 0)) true (A.cmp .gtr (A.get V k (0,0,0)).1 64)) true (A.cmp .gtr (A.get V k (0,0,0)).2.1 64)=FA (cK V k):=fun k=>by
  subst hA
  rw[dR,dR,dR,Bool.or_assoc,Bool.or_assoc];rfl
 have p2: ∀ i j,A.ite (A.cmp .eql (A.get V i (0,0,0)).1 (A.get V j (0,0,0)).1) (A.cmp .eql (A.get V i (0,0,0)).2.1 (A.get V j (0,0,0)).2.1) false=Zz V i j:=fun i j=>by
  subst hA
  rw[gF,fG,fG];rfl
 have p3: ∀ k,A.cmp .neq (O.deg S k) 2=decide (sK S k S.length≠2):=fun k=>by
  subst hA hO
  show(sK S k S.length != 2)=decide (sK S k S.length≠2)
  by_cases h:sK S k S.length=2 <;> simp[h]
 have p4: ∀ i j,O.cross V S i j=j3 V S i j:=fun i j=>by subst hO;rfl
 have p5: ∀ k,O.hole V S (A.get l k ⟨⟨⟨false,A.zD⟩,⟨false,A.zD⟩⟩,⟨⟨false,A.zD⟩,⟨false,A.zD⟩⟩⟩)=rY V S (pC l k):=fun k=>by subst hA hO;rfl
 cbv
 repeat' with_reducible first | (intro hb;cbv) | refine UM ?_ ?_
 ·refine hk _ _ (bW.pure rfl rfl fun ρ=>?_)
  have e:=f.c1 hb
  subst hO
  exact dL e
 obtain⟨lv,ls,ll⟩:=f.f hb
 have er:=f.e hb
 clear f hb
 refine hL _ _ _ (aQ (un:=⟨false,some [0,1,2,3,4,5,6,7,8,9,10,13,18,43,48,53,83,88,94,99,104,110,115,124]⟩) tok wR aL (fun k:Int=>⟨[(3,⟨[], .c (.s (.int .i64 k))⟩),(2,⟨[], .c (.s (.lit .i64 0))⟩),(1,⟨[], .c (.s (.hp 3 0))⟩)],[(3, .fix true [.s (.hs 0), .s (.hs 1), .s (.hs 2)]),(0, .vec false .i3 V),(1, .vec false .i3 S),(2, .vec false .pt l)],4⟩) (fun k=>AnI (aY V) (fun k=>FA (cK V k)) k) (fun k=>(aY V - k).toNat) 0 i1 ?_ (fun _ i hi=>by have:=hWr i hi;simp at this;show i < 4;omega) ?_)
 ·exact⟨⟨⟨rfl,rfl,fun _=>rfl⟩,⟨rfl,rfl,fun _=>rfl⟩,⟨rfl,rfl,fun _=>rfl⟩,trivial⟩,⟨aF rfl,aF rfl,aF rfl,aF rfl,trivial⟩,rfl,rfl⟩
 clear i1
 rintro k hI2 A2 L2 k2 hA2 hL2 hnext2 hexit2 hret2
 have hn2:A2.len V=aY V:=by subst hA2;rfl
 have st2:=fun hb:A2.cmp .lss k (A2.len V)=true=>c9 hI2 (by omega) A2 hA2 (by rw[← hn2];exact hb)
 have en2:=fun hb:A2.cmp .lss k (A2.len V)=false=>eK hI2 A2 hA2 (by rw[← hn2];exact hb)
 clear hI2
 rw[hA, ← hA2] at p1
 rw[← hA2, ← hU, ← hO]
 cbv
 repeat' with_reducible first | (intro hb;cbv) | refine UM ?_ ?_
 all_goals first | exact(st2 hb).o1 | exact hb | exact sV hA2 (st2 hb).o1 | exact sV hA2 hb | exact hin | skip
 ·rename_i hb0
  rw[p1] at hb
  have e:=(st2 hb0).ht hb
  apply hret2
  clear hexit2 hnext2 hret2 st2 en2
  cbv
  refine hk _ _ (bW.pure rfl rfl fun ρ=>dL ?_)
  simp only[e,if_true] at er
  subst hO
  exact er.symm
 ·rename_i hb0
  rw[p1] at hb
  refine hnext2 _ (k+1) ((st2 hb0).nx hb) (st2 hb0).ms ?_
  have ead:=(st2 hb0).ad
  subst hA2 hA
  exact⟨⟨⟨rfl,rfl,leI ead⟩,⟨rfl,rfl,fun _=>rfl⟩,⟨rfl,rfl,fun _=>rfl⟩,trivial⟩,⟨aF rfl,aF rfl,aF rfl,aF rfl,trivial⟩,rfl,rfl⟩
 have ev:=(en2 hb).no
 apply hexit2
 clear hexit2 hnext2 hret2 st2 en2 p1
 simp only[ev,Bool.false_eq_true,if_false] at er
 clear ev hb hL2
 cbv
 refine hL _ _ _ (aQ (un:=⟨false,some [0,1,2,3,4,5,6,7,8,9,10,13,18,43,48,53,83,88,94,99,104,110,115,124]⟩) tok wR aL (fun i:Int=>⟨[(5,⟨[], .c (.s (.int .i64 i))⟩),(2,⟨[], .c (.s (.lit .i64 0))⟩),(1,⟨[], .c (.s (.hp 3 0))⟩)],[(3, .fix true [.s (.hs 0), .s (.hs 1), .s (.hs 2)]),(0, .vec false .i3 V),(1, .vec false .i3 S),(2, .vec false .pt l)],4⟩) (fun i=>AnI (aY V) (fun i=>cY i fun j=>Zz V i j) i) (fun i=>(aY V - i).toNat) 0 i2 ?_ (fun _ i hi=>by have:=hWr i hi;simp at this;show i < 4;omega) ?_)
 ·exact⟨⟨⟨rfl,rfl,fun _=>rfl⟩,⟨rfl,rfl,fun _=>rfl⟩,⟨rfl,rfl,fun _=>rfl⟩,trivial⟩,⟨aF rfl,aF rfl,aF rfl,aF rfl,trivial⟩,rfl,rfl⟩
 clear i2
 rintro i hI3 A3 L3 k3 hA3 hL3 hnext3 hexit3 hret3
 have hn3:A3.len V=aY V:=by subst hA3;rfl
 have st3:=fun hb:A3.cmp .lss i (A3.len V)=true=>c9 hI3 (by omega) A3 hA3 (by rw[← hn3];exact hb)
 have en3:=fun hb:A3.cmp .lss i (A3.len V)=false=>eK hI3 A3 hA3 (by rw[← hn3];exact hb)
 have hi1:=hI3.k1
 have j0:AnI i (fun j=>Zz V i j) 0:=cH hI3.k0
 clear hI3
 rw[← hA3, ← hU, ← hO]
 cbv
 repeat' with_reducible first | (intro hb;cbv) | refine UM ?_ ?_
 ·have hbi:=hb
  have st3:=st3 hb
  clear en3 hb
  refine hL3 _ _ _ (aQ (un:=⟨false,some [0,1,2,3,4,5,6,7,8,9,10,13,18,43,48,53,83,88,94,99,104,110,115,124]⟩) tok wR aL (fun j:Int=>⟨[(6,⟨[], .c (.s (.int .i64 j))⟩),(5,⟨[], .c (.s (.int .i64 i))⟩),(2,⟨[], .c (.s (.lit .i64 0))⟩),(1,⟨[], .c (.s (.hp 3 0))⟩)],[(3, .fix true [.s (.hs 0), .s (.hs 1), .s (.hs 2)]),(0, .vec false .i3 V),(1, .vec false .i3 S),(2, .vec false .pt l)],4⟩) (fun j=>AnI (i) (fun j=>Zz V i j) j) (fun j=>(i - j).toNat) 0 j0 ?_ (fun _ i hi=>by have:=hWr i hi;simp at this;show i < 4;omega) ?_)
  ·exact⟨⟨⟨rfl,rfl,fun _=>rfl⟩,⟨rfl,rfl,fun _=>rfl⟩,⟨rfl,rfl,fun _=>rfl⟩,⟨rfl,rfl,fun _=>rfl⟩,trivial⟩,⟨aF rfl,aF rfl,aF rfl,aF rfl,trivial⟩,rfl,rfl⟩
  clear j0
  rintro j hI4 A4 L4 k4 hA4 hL4 hnext4 hexit4 hret4
  have st4:=fun hb:A4.cmp .lss j (i)=true=>c9 hI4 (by omega) A4 hA4 hb
  have en4:=fun hb:A4.cmp .lss j (i)=false=>eK hI4 A4 hA4 hb
  have oi:A4.cmp .leq 0 i=true:=by rw[hA4, ← hA3];exact st3.o1
  have hbi3:A4.cmp .lss i (A4.len V)=true:=by rw[hA4, ← hA3];exact hbi
  have hbj:A4.cmp .lss j i=true→A4.cmp .lss j (A4.len V)=true:=fun hb=>by
   subst hA4 hA3
   have h1:i < aY V:=of_decide_eq_true hbi
   have h2:j < i:=of_decide_eq_true hb
   exact bH _ rfl _ _ (by show j < aY V;omega)
  clear hI4
  rw[hA, ← hA4] at p2
  rw[← hA4, ← hU, ← hO]
  cbv
  repeat' with_reducible first | (intro hb;cbv) | refine UM ?_ ?_
  all_goals first | exact oi | exact hbi3 | exact(st4 hb).o1 | exact hbj hb | exact hin | exact sV hA4 oi | exact sV hA4 hbi3 | exact sV hA4 (st4 hb).o1 | exact sV hA4 (hbj hb) | skip
  ·rename_i hb0
   rw[p2] at hb
   have e:=st3.ht ((st4 hb0).ht hb)
   apply hret4
   clear hexit4 hnext4 hret4 st4 en4
   cbv
   apply hret3
   clear hexit3 hnext3 hret3 st3
   cbv
   refine hk _ _ (bW.pure rfl rfl fun ρ=>dL ?_)
   simp only[e,if_true] at er
   subst hO
   exact er.symm
  ·rename_i hb0
   rw[p2] at hb
   refine hnext4 _ (j+1) ((st4 hb0).nx hb) (st4 hb0).ms ?_
   have ead:=(st4 hb0).ad
   subst hA4 hA
   exact⟨⟨⟨rfl,rfl,leI ead⟩,⟨rfl,rfl,fun _=>rfl⟩,⟨rfl,rfl,fun _=>rfl⟩,⟨rfl,rfl,fun _=>rfl⟩,trivial⟩,⟨aF rfl,aF rfl,aF rfl,aF rfl,trivial⟩,rfl,rfl⟩
  ·have ev:=(en4 hb).no
   apply hexit4
   clear hexit4 hnext4 hret4 st4 en4
   cbv
   refine hnext3 _ (i+1) (st3.nx ev) st3.ms ?_
   have ead:=st3.ad
   subst hA4 hA3 hA
   exact⟨⟨⟨rfl,rfl,leI ead⟩,⟨rfl,rfl,fun _=>rfl⟩,⟨rfl,rfl,fun _=>rfl⟩,trivial⟩,⟨aF rfl,aF rfl,aF rfl,aF rfl,trivial⟩,rfl,rfl⟩
 have ev:=(en3 hb).no
 apply hexit3
 clear hexit3 hnext3 hret3 st3 en3 p2
 simp only[ev,Bool.false_eq_true,if_false] at er
 clear ev hb hL3
 cbv
 refine hL _ _ _ (aQ (un:=⟨false,some [0,1,2,3,4,5,6,7,8,9,10,13,18,43,48,53,83,88,94,99,104,110,115,124]⟩) tok wR aL (fun k:Int=>⟨[(7,⟨[], .c (.s (.int .i64 k))⟩),(2,⟨[], .c (.s (.lit .i64 0))⟩),(1,⟨[], .c (.s (.hp 3 0))⟩)],[(3, .fix true [.s (.hs 0), .s (.hs 1), .s (.hs 2)]),(0, .vec false .i3 V),(1, .vec false .i3 S),(2, .vec false .pt l)],4⟩) (fun k=>AnI (aY V) (fun k=>decide (sK S k S.length≠2)) k) (fun k=>(aY V - k).toNat) 0 i3 ?_ (fun _ i hi=>by have:=hWr i hi;simp at this;show i < 4;omega) ?_)
 ·exact⟨⟨⟨rfl,rfl,fun _=>rfl⟩,⟨rfl,rfl,fun _=>rfl⟩,⟨rfl,rfl,fun _=>rfl⟩,trivial⟩,⟨aF rfl,aF rfl,aF rfl,aF rfl,trivial⟩,rfl,rfl⟩
 clear i3
 rintro k hI5 A5 L5 k5 hA5 hL5 hnext5 hexit5 hret5
 have hn5:A5.len V=aY V:=by subst hA5;rfl
 have st5:=fun hb:A5.cmp .lss k (A5.len V)=true=>c9 hI5 (by omega) A5 hA5 (by rw[← hn5];exact hb)
 have en5:=fun hb:A5.cmp .lss k (A5.len V)=false=>eK hI5 A5 hA5 (by rw[← hn5];exact hb)
 clear hI5
 rw[hA, ← hA5] at p3
 rw[← hA5, ← hU, ← hO]
 cbv
 repeat' with_reducible first | (intro hb;cbv) | refine UM ?_ ?_
 all_goals first | exact(st5 hb).o1 | exact hb | exact sV hA5 (st5 hb).o1 | exact sV hA5 hb | exact hin | exact bH _ hA5 _ _ (by subst hA5;show aY S < 1000000;omega) | skip
 ·rename_i hb0
  rw[p3] at hb
  have e:=(st5 hb0).ht hb
  apply hret5
  clear hexit5 hnext5 hret5 st5 en5
  cbv
  refine hk _ _ (bW.pure rfl rfl fun ρ=>dL ?_)
  simp only[e,if_true] at er
  subst hO
  exact er.symm
 ·rename_i hb0
  rw[p3] at hb
  refine hnext5 _ (k+1) ((st5 hb0).nx hb) (st5 hb0).ms ?_
  have ead:=(st5 hb0).ad
  subst hA5 hA
  exact⟨⟨⟨rfl,rfl,leI ead⟩,⟨rfl,rfl,fun _=>rfl⟩,⟨rfl,rfl,fun _=>rfl⟩,trivial⟩,⟨aF rfl,aF rfl,aF rfl,aF rfl,trivial⟩,rfl,rfl⟩
 have ev:=(en5 hb).no
 apply hexit5
 clear hexit5 hnext5 hret5 st5 en5 p3
 simp only[ev,Bool.false_eq_true,if_false] at er
 clear ev hb hL5
 cbv
 refine hL _ _ _ (aQ (un:=⟨false,some [0,1,2,3,4,5,6,7,8,9,10,13,18,43,48,53,83,88,94,99,104,110,115,124]⟩) tok wR aL (fun i:Int=>⟨[(8,⟨[], .c (.s (.int .i64 i))⟩),(2,⟨[], .c (.s (.lit .i64 0))⟩),(1,⟨[], .c (.s (.hp 3 0))⟩)],[(3, .fix true [.s (.hs 0), .s (.hs 1), .s (.hs 2)]),(0, .vec false .i3 V),(1, .vec false .i3 S),(2, .vec false .pt l)],4⟩) (fun i=>AnI (aY S) (fun i=>cY i fun j=>j3 V S i j) i) (fun i=>(aY S - i).toNat) 0 i4 ?_ (fun _ i hi=>by have:=hWr i hi;simp at this;show i < 4;omega) ?_)
 ·exact⟨⟨⟨rfl,rfl,fun _=>rfl⟩,⟨rfl,rfl,fun _=>rfl⟩,⟨rfl,rfl,fun _=>rfl⟩,trivial⟩,⟨aF rfl,aF rfl,aF rfl,aF rfl,trivial⟩,rfl,rfl⟩
 clear i4
 rintro i hI6 A6 L6 k6 hA6 hL6 hnext6 hexit6 hret6
 have hn6:A6.len S=aY S:=by subst hA6;rfl
 have st6:=fun hb:A6.cmp .lss i (A6.len S)=true=>c9 hI6 (by omega) A6 hA6 (by rw[← hn6];exact hb)
 have en6:=fun hb:A6.cmp .lss i (A6.len S)=false=>eK hI6 A6 hA6 (by rw[← hn6];exact hb)
 have hi1:=hI6.k1
 have j0:AnI i (fun j=>j3 V S i j) 0:=cH hI6.k0
 clear hI6
 rw[← hA6, ← hU, ← hO]
 cbv
 repeat' with_reducible first | (intro hb;cbv) | refine UM ?_ ?_
 ·have hbi:=hb
  have st6:=st6 hb
  clear en6 hb
  refine hL6 _ _ _ (aQ (un:=⟨false,some [0,1,2,3,4,5,6,7,8,9,10,13,18,43,48,53,83,88,94,99,104,110,115,124]⟩) tok wR aL (fun j:Int=>⟨[(9,⟨[], .c (.s (.int .i64 j))⟩),(8,⟨[], .c (.s (.int .i64 i))⟩),(2,⟨[], .c (.s (.lit .i64 0))⟩),(1,⟨[], .c (.s (.hp 3 0))⟩)],[(3, .fix true [.s (.hs 0), .s (.hs 1), .s (.hs 2)]),(0, .vec false .i3 V),(1, .vec false .i3 S),(2, .vec false .pt l)],4⟩) (fun j=>AnI (i) (fun j=>j3 V S i j) j) (fun j=>(i - j).toNat) 0 j0 ?_ (fun _ i hi=>by have:=hWr i hi;simp at this;show i < 4;omega) ?_)
  ·exact⟨⟨⟨rfl,rfl,fun _=>rfl⟩,⟨rfl,rfl,fun _=>rfl⟩,⟨rfl,rfl,fun _=>rfl⟩,⟨rfl,rfl,fun _=>rfl⟩,trivial⟩,⟨aF rfl,aF rfl,aF rfl,aF rfl,trivial⟩,rfl,rfl⟩
  clear j0
  rintro j hI7 A7 L7 k7 hA7 hL7 hnext7 hexit7 hret7
  have st7:=fun hb:A7.cmp .lss j (i)=true=>c9 hI7 (by omega) A7 hA7 hb
  have en7:=fun hb:A7.cmp .lss j (i)=false=>eK hI7 A7 hA7 hb
  have oi:A7.cmp .leq 0 i=true:=by rw[hA7, ← hA6];exact st6.o1
  have hbi3:A7.cmp .lss i (A7.len S)=true:=by rw[hA7, ← hA6];exact hbi
  have hbj:A7.cmp .lss j i=true→A7.cmp .lss j (A7.len S)=true:=fun hb=>by
   subst hA7 hA6
   have h1:i < aY S:=of_decide_eq_true hbi
   have h2:j < i:=of_decide_eq_true hb
   exact bH _ rfl _ _ (by show j < aY S;omega)
  clear hI7
  rw[← hA7, ← hU, ← hO]
  cbv
  repeat' with_reducible first | (intro hb;cbv) | refine UM ?_ ?_
  all_goals first | exact oi | exact hbi3 | exact(st7 hb).o1 | exact hbj hb | exact hin | exact sV hA7 oi | exact sV hA7 hbi3 | exact sV hA7 (st7 hb).o1 | exact sV hA7 (hbj hb) | skip
  ·rename_i hb0
   rw[p4] at hb
   have e:=st6.ht ((st7 hb0).ht hb)
   apply hret7
   clear hexit7 hnext7 hret7 st7 en7
   cbv
   apply hret6
   clear hexit6 hnext6 hret6 st6
   cbv
   refine hk _ _ (bW.pure rfl rfl fun ρ=>dL ?_)
   simp only[e,if_true] at er
   subst hO
   exact er.symm
  ·rename_i hb0
   rw[p4] at hb
   refine hnext7 _ (j+1) ((st7 hb0).nx hb) (st7 hb0).ms ?_
   have ead:=(st7 hb0).ad
   subst hA7 hA
   exact⟨⟨⟨rfl,rfl,leI ead⟩,⟨rfl,rfl,fun _=>rfl⟩,⟨rfl,rfl,fun _=>rfl⟩,⟨rfl,rfl,fun _=>rfl⟩,trivial⟩,⟨aF rfl,aF rfl,aF rfl,aF rfl,trivial⟩,rfl,rfl⟩
  ·have ev:=(en7 hb).no
   apply hexit7
   clear hexit7 hnext7 hret7 st7 en7
   cbv
   refine hnext6 _ (i+1) (st6.nx ev) st6.ms ?_
   have ead:=st6.ad
   subst hA7 hA6 hA
   exact⟨⟨⟨rfl,rfl,leI ead⟩,⟨rfl,rfl,fun _=>rfl⟩,⟨rfl,rfl,fun _=>rfl⟩,trivial⟩,⟨aF rfl,aF rfl,aF rfl,aF rfl,trivial⟩,rfl,rfl⟩
 have ev:=(en6 hb).no
 apply hexit6
 clear hexit6 hnext6 hret6 st6 en6 p4
 simp only[ev,Bool.false_eq_true,if_false] at er
 clear ev hb hL6
 cbv
 refine hL _ _ _ (aQ (un:=⟨false,some [0,1,2,3,4,5,6,7,8,9,10,13,18,43,48,53,83,88,94,99,104,110,115,124]⟩) tok wR aL (fun k:Int=>⟨[(10,⟨[], .c (.s (.int .i64 k))⟩),(2,⟨[], .c (.s (.lit .i64 0))⟩),(1,⟨[], .c (.s (.hp 3 0))⟩)],[(3, .fix true [.s (.hs 0), .s (.hs 1), .s (.hs 2)]),(0, .vec false .i3 V),(1, .vec false .i3 S),(2, .vec false .pt l)],4⟩) (fun k=>AnI (aY l) (fun k=>rY V S (pC l k)) k) (fun k=>(aY l - k).toNat) 0 i5 ?_ (fun _ i hi=>by have:=hWr i hi;simp at this;show i < 4;omega) ?_)
 ·exact⟨⟨⟨rfl,rfl,fun _=>rfl⟩,⟨rfl,rfl,fun _=>rfl⟩,⟨rfl,rfl,fun _=>rfl⟩,trivial⟩,⟨aF rfl,aF rfl,aF rfl,aF rfl,trivial⟩,rfl,rfl⟩
 clear i5
 rintro k hI8 A8 L8 k8 hA8 hL8 hnext8 hexit8 hret8
 have hn8:A8.len l=aY l:=by subst hA8;rfl
 have st8:=fun hb:A8.cmp .lss k (A8.len l)=true=>c9 hI8 (by omega) A8 hA8 (by rw[← hn8];exact hb)
 have en8:=fun hb:A8.cmp .lss k (A8.len l)=false=>eK hI8 A8 hA8 (by rw[← hn8];exact hb)
 clear hI8
 rw[hA, ← hA8] at p5
 rw[← hA8, ← hU, ← hO]
 cbv
 repeat' with_reducible first | (intro hb;cbv) | refine UM ?_ ?_
 all_goals first | exact(st8 hb).o1 | exact hb | exact sV hA8 (st8 hb).o1 | exact sV hA8 hb | exact hin | exact bH _ hA8 _ _ (by subst hA8;show aY S < 1000000;omega) | skip
 ·rename_i hb0
  rw[p5] at hb
  have e:=(st8 hb0).ht hb
  apply hret8
  clear hexit8 hnext8 hret8 st8 en8
  cbv
  refine hk _ _ (bW.pure rfl rfl fun ρ=>dL ?_)
  simp only[e,if_true] at er
  subst hO
  exact er.symm
 ·rename_i hb0
  rw[p5] at hb
  refine hnext8 _ (k+1) ((st8 hb0).nx hb) (st8 hb0).ms ?_
  have ead:=(st8 hb0).ad
  subst hA8 hA
  exact⟨⟨⟨rfl,rfl,leI ead⟩,⟨rfl,rfl,fun _=>rfl⟩,⟨rfl,rfl,fun _=>rfl⟩,trivial⟩,⟨aF rfl,aF rfl,aF rfl,aF rfl,trivial⟩,rfl,rfl⟩
 have ev:=(en8 hb).no
 apply hexit8
 clear hexit8 hnext8 hret8 st8 en8 p5
 simp only[ev,Bool.false_eq_true,if_false] at er
 clear ev hb hL8
 cbv
 refine hk _ _ (bW.pure rfl rfl fun ρ=>dL ?_)
 subst hO
 exact er.symm
end Go.Eng
