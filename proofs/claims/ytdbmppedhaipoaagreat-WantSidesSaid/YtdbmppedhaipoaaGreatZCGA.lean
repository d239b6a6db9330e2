
import Derived.Test.YtdbmppedhaipoaaGreatZCEA
import Derived.Test.YtdbmppedhaipoaaGreatZCDB
import Derived.Test.YtdbmppedhaipoaaGreatSpecBA
import Derived.Test.YtdbmppedhaipoaaGreatZLE3
import Derived.Test.YtdbmppedhaipoaaGreatZCDT
import Derived.Test.YtdbmppedhaipoaaGreatSpecU4
set_option linter.all false
set_option exponentiation.threshold 3000
set_option maxRecDepth 100000
set_option maxHeartbeats 2000000
namespace Go.Eng
open Go.Proofs
def ZL (W:SI):List CV→List Blk→Option LR
 | [.s (.int .i64 n)],[]=>some ⟨[], .c (.s (.bool (W.side n))),[]⟩
 | _,_=>none
theorem abD (A:Alg) (hA:A=aA) (W:SI) (hW:W=UW) (n:Int):A.ite (A.ite (A.cmp .geq n 1) (A.cmp .leq n 64) false) (A.cmp .eql (A.bin .and .i64 n (A.bin .sub .i64 n 1)) 0) false=W.side n:=by
 subst hA hW
 have ia: ∀ u v:Bool,aA.ite u v false=(u&&v):=fun u v=>by cases u <;> rfl
 rw[ia,ia]
 show((decide (n ≥ 1)&&decide (n≤64))&&(aD .and .i64 n (aD .sub .i64 n 1) == 0))=pw2 n
 by_cases h:1≤n∧n≤64
 ·have e1:aD .sub .i64 n 1=n - 1:=by simp only[aD,IntKind.wrap_i64];omega
  rw[e1,XQ n h.1 h.2,decide_eq_true h.1,decide_eq_true h.2];rfl
 ·have e1:(decide (n ≥ 1)&&decide (n≤64))=false:=by rw[← Bool.decide_and];exact decide_eq_false h
  have e2:pw2 n=false:=by rw[Bool.eq_false_iff];exact fun g=>h (Wo g)
  rw[e1,e2];rfl
theorem aaI:aJ Tryz.prog 78 (aC [.v] aA (ZL UW)):=by
 refine aH (un:=⟨false,some [0,2]⟩) tok nF aL (fn:=Tryz.f78) ?_
 intro w Wr args bs r hg ho hWr A L k hA hL hk
 obtain⟨W,hW⟩:=exE UW
 try rw[← hW]
 try rw[← hA]
 unfold ZL at hg
 split at hg <;> cases hg
 rename_i n
 have e:=abD A hA W hW n
 cbv
 repeat' with_reducible first | (intro hb;cbv) | refine UM ?_ ?_
 refine hk _ _ (bE.pure rfl fun ρ=>yQ ?_)
 rw[← hW]
 exact e
theorem aaL:aJ Tryz.prog 77 (aC [.v] aA (ZL UW)):=by
 refine aH (un:=⟨false,some [0,2]⟩) tok nF aL (fn:=Tryz.f77) ?_
 intro w Wr args bs r hg ho hWr A L k hA hL hk
 obtain⟨W,hW⟩:=exE UW
 try rw[← hW]
 try rw[← hA]
 unfold ZL at hg
 split at hg <;> cases hg
 rename_i n
 have e:A.ite (A.ite (A.ite (A.ite (A.ite (A.ite (A.cmp .eql n 1) true (A.cmp .eql n 2)) true (A.cmp .eql n 4)) true (A.cmp .eql n 8)) true (A.cmp .eql n 16)) true (A.cmp .eql n 32)) true (A.cmp .eql n 64)=W.side n:=by
  subst hA hW
  have it: ∀ u v:Bool,aA.ite u true v=(u||v):=fun u v=>by cases u <;> rfl
  have eq: ∀ z:Int,aA.cmp .eql n z=decide (n=z):=fun z=>rfl
  simp only[it,eq]
  rfl
 cbv
 repeat' with_reducible first | (intro hb;cbv) | refine UM ?_ ?_
 refine hk _ _ (bE.pure rfl fun ρ=>yQ ?_)
 rw[← hW]
 exact e
def aaV (A:Alg) (W:SI):List CV→List Blk→Option LW
 | [.s (.int .i64 lo), .s (.int .i64 hi), .s (.hs 0)],[.vec false (.int .i64) l]=>some ⟨[A.cmp .lss (A.len l) 1000000], .c (.s (.bool (W.bt lo hi l))),[],[]⟩
 | _,_=>none
theorem aa0:aJ Tryz.prog 79 (aR [.a .v, .a .v, .a (.s (.int .i64))] aA (aaV aA UW)):=by
 refine aW (un:=⟨false,some [0,1,2,6,8,9,10,11,12,22]⟩) tok nF aL (fn:=Tryz.f79) ?_
 intro w Wr args bs r hg ho hWr A L k hA hL hk
 obtain⟨W,hW⟩:=exE UW
 try rw[← hW]
 try rw[← hA]
 unfold aaV at hg
 split at hg <;> cases hg
 rename_i lo hi l
 have hlen:=(aG ho).1
 simp only[aA,aP,decide_eq_true_eq] at hlen
 have hlen:aY l < 1000000:=by unfold aY;omega
 clear ho
 have pv: ∀ k,A.ite (A.cmp .lss (A.get l k 0) lo) true (A.cmp .gtr (A.get l k 0) hi)=V0 lo hi (mU l k):=fun k=>by
  subst hA
  have it: ∀ u v:Bool,aA.ite u true v=(u||v):=fun u v=>by cases u <;> rfl
  rw[it];rfl
 have i0:AnI (aY l) (fun k=>V0 lo hi (mU l k)) 0:=cH (Int.natCast_nonneg _)
 have er:W.bt lo hi l= !cY (aY l) fun k=>V0 lo hi (mU l k):=by rw[hW];rfl
 cbv
 refine hL _ _ _ (aQ (un:=⟨false,some [0,1,2,6,8,9,10,11,12,22]⟩) tok nF aL (fun k:Int=>⟨[(11,⟨[], .c (.s (.int .i64 k))⟩),(10,⟨[], .c (.s (.int .i64 (A.len l)))⟩),(9,⟨[], .c (.s (.hs 0))⟩),(1,⟨[], .c (.s (.int .i64 hi))⟩),(0,⟨[], .c (.s (.int .i64 lo))⟩)],[(0, .vec false (.int .i64) l)],1⟩) (fun k=>AnI (aY l) (fun k=>V0 lo hi (mU l k)) k) (fun k=>(aY l - k).toNat) 0 i0 ?_ (fun _ i hi=>by have:=hWr i hi;simp at this;show i < 1;omega) ?_)
 ·exact⟨⟨⟨rfl,rfl,fun _=>rfl⟩,⟨rfl,rfl,fun _=>rfl⟩,⟨rfl,rfl,fun _=>rfl⟩,⟨rfl,rfl,fun _=>rfl⟩,⟨rfl,rfl,fun _=>rfl⟩,trivial⟩,⟨aF rfl,trivial⟩,rfl,rfl⟩
 clear i0
 rintro k hI2 A2 L2 k2 hA2 hL2 hnext2 hexit2 hret2
 have hn2:A2.len l=aY l:=by subst hA2;rfl
 have st2:=fun hb:A2.cmp .lss k (A2.len l)=true=>c9 hI2 (by omega) A2 hA2 (by rw[← hn2];exact hb)
 have en2:=fun hb:A2.cmp .lss k (A2.len l)=false=>eK hI2 A2 hA2 (by rw[← hn2];exact hb)
 clear hI2
 rw[hA, ← hA2] at pv
 rw[hA, ← hA2]
 cbv
 repeat' with_reducible first | (intro hb;cbv) | refine UM ?_ ?_
 all_goals first | exact(st2 hb).o1 | exact hb | skip
 ·rename_i hb0
  rw[pv] at hb
  have e:=(st2 hb0).ht hb
  apply hret2
  clear hexit2 hnext2 hret2 st2 en2
  cbv
  refine hk _ _ (bW.pure rfl rfl fun ρ=>dT ?_)
  rw[e] at er
  subst hW
  exact er.symm
 ·rename_i hb0
  rw[pv] at hb
  refine hnext2 _ (k+1) ((st2 hb0).nx hb) (st2 hb0).ms ?_
  have ead:=(st2 hb0).ad
  subst hA2 hA
  exact⟨⟨⟨rfl,rfl,leI ead⟩,⟨rfl,rfl,fun _=>rfl⟩,⟨rfl,rfl,fun _=>rfl⟩,⟨rfl,rfl,fun _=>rfl⟩,⟨rfl,rfl,fun _=>rfl⟩,trivial⟩,⟨aF rfl,trivial⟩,rfl,rfl⟩
 ·have e:=(en2 hb).no
  apply hexit2
  clear hexit2 hnext2 hret2 st2 en2
  cbv
  refine hk _ _ (bW.pure rfl rfl fun ρ=>dT ?_)
  rw[e] at er
  subst hW
  exact er.symm
def gA1 (A:Alg) (W:SI):List (Nat×bU):=(78,aC [.v] A (ZL W)) :: (79,aR [.a .v, .a .v, .a (.s (.int .i64))] A (aaV A W)) :: ([])
theorem aa7:COK Tryz.prog (aN (gA1 aA UW)):=aB aaI (aB aa0 (bC))
def ZV (W:SI):List CV→List Blk→Option LW
 | [.g [.s (.int .i64 h), .s (.int .i64 c), .s (.hs 0)]],[.vec false .i3 Z]=>some ⟨[], .c (.s (.bool (W.ok h c Z))),[],[]⟩
 | _,_=>none
structure OpF (A:Alg) (W:SI) (h c:Int) (Z:List (Int×Int×Int)):Prop where
 a1:A.cmp .lss (A.len [c]) 1000000=true
 a2: ∀ p q:Int,A.cmp .lss (A.len [p,q]) 1000000=true
 c1:A.not (W.side h)=true→false=W.ok h c Z
 c2:A.not (W.side h)=false→A.ite (A.not (W.bt 1 4096 [c])) true (A.cmp .gtr (A.len Z) 4)=true→false=W.ok h c Z
 l:A.not (W.side h)=false→A.ite (A.not (W.bt 1 4096 [c])) true (A.cmp .gtr (A.len Z) 4)=false→aY Z < 1000000
 yes:A.not (W.side h)=false→A.ite (A.not (W.bt 1 4096 [c])) true (A.cmp .gtr (A.len Z) 4)=false→cY (aY Z) (fun k=>WS (cK Z k))=true→false=W.ok h c Z
 no:A.not (W.side h)=false→A.ite (A.not (W.bt 1 4096 [c])) true (A.cmp .gtr (A.len Z) 4)=false→cY (aY Z) (fun k=>WS (cK Z k))=false→true=W.ok h c Z
theorem aa4 (lo hi c:Int):btI lo hi [c]= !V0 lo hi c:=by
 unfold btI
 have:cY (aY [c]) (fun k=>V0 lo hi (mU [c] k))=V0 lo hi c:=by
  show cY 1 _=_
  unfold cY
  show((List.range 1).any fun i:Nat=>V0 lo hi (mU [c] (i:Int)))=_
  rw[show List.range 1=[0] from rfl]
  simp only[List.any_cons,List.any_nil,Bool.or_false]
  rfl
 rw[this]
theorem aa5 (lo hi c d:Int):btI lo hi [c,d]= !(V0 lo hi c||V0 lo hi d):=by
 unfold btI
 have:cY (aY [c,d]) (fun k=>V0 lo hi (mU [c,d] k))=(V0 lo hi c||V0 lo hi d):=by
  show cY 2 _=_
  unfold cY
  show((List.range 2).any fun i:Nat=>V0 lo hi (mU [c,d] (i:Int)))=_
  rw[show List.range 2=[0,1] from rfl]
  simp only[List.any_cons,List.any_nil,Bool.or_false]
  rfl
 rw[this]
theorem acE (A:Alg) (hA:A=aA) (W:SI) (hW:W=UW) (h c:Int) (Z:List (Int×Int×Int)):OpF A W h c Z:=by
 subst hA hW
 have it: ∀ u v:Bool,aA.ite u true v=(u||v):=fun u v=>by cases u <;> rfl
 have nt: ∀ u:Bool,aA.not u= !u:=fun u=>rfl
 have gt:aA.cmp .gtr (aA.len Z) 4=decide (aY Z > 4):=rfl
 have e:UW.ok h c Z=(UW.side h&&(!V0 1 4096 c&&(decide (aY Z≤4)&& !cY (aY Z) fun k=>WS (cK Z k)))):=rfl
 have eb:UW.bt 1 4096 [c]= !V0 1 4096 c:=aa4 _ _ _
 refine⟨bH _ rfl _ _ (by show(1:Int) < 1000000;decide),fun p q=>bH _ rfl _ _ (by show(2:Int) < 1000000;decide),fun g=>?_,fun g1 g2=>?_,fun g1 g2=>?_,fun g1 g2 g3=>?_,fun g1 g2 g3=>?_⟩
 ·rw[nt] at g;rw[Bool.not_eq_true'] at g;rw[e,g];rfl
 ·rw[it,nt,eb,gt,Bool.not_not] at g2
  rw[e]
  cases hf:V0 1 4096 c <;> rw[hf] at g2
  ·have:4 < aY Z:=by simpa using g2
   rw[decide_eq_false (show ¬ aY Z≤4 by omega)];simp
  ·simp
 ·rw[it,nt,eb,gt,Bool.not_not,Bool.or_eq_false_iff] at g2
  have:=of_decide_eq_false g2.2
  omega
 ·rw[e,g3];simp
 ·rw[it,nt,eb,gt,Bool.not_not,Bool.or_eq_false_iff] at g2
  rw[nt,Bool.not_eq_false'] at g1
  have:=of_decide_eq_false g2.2
  rw[e,g1,g2.1,g3,decide_eq_true (show aY Z≤4 by omega)];rfl
structure BzF (A:Alg) (W:SI) (z:Int×Int×Int):Prop where
 y:A.not (W.side z.2.2)=true→WS z=true
 n:A.not (W.side z.2.2)=false→A.not (W.bt 0 64 [z.1,z.2.1])=WS z
theorem ab7 (A:Alg) (hA:A=aA) (W:SI) (hW:W=UW) (z:Int×Int×Int):BzF A W z:=by
 subst hA hW
 refine⟨fun h=>?_,fun h=>?_⟩
 ·have h:(!XC z.2.2)=true:=h
  unfold WS
  rw[h];rfl
 ·have h:(!XC z.2.2)=false:=h
  show(!btI 0 64 [z.1,z.2.1])=_
  rw[aa5,Bool.not_not]
  unfold WS
  rw[h];rfl
theorem aa1:aJ Tryz.prog 49 (aR [.g [.v, .v, .s .i3]] aA (ZV UW)):=by
 refine aW (un:=⟨false,some [0,1,2,4,21,23,24,25,26,41]⟩) tok aa7 aL (fn:=Tryz.f49) ?_
 intro w Wr args bs r hg ho hWr A L k hA hL hk
 obtain⟨W,hW⟩:=exE UW
 try rw[← hW]
 try rw[← hA]
 unfold ZV at hg
 split at hg <;> cases hg
 rename_i h c Z
 have f:=acE A hA W hW h c Z
 have i0:AnI (aY Z) (fun k=>WS (cK Z k)) 0:=cH (Int.natCast_nonneg _)
 cbv
 repeat' with_reducible first | (intro hb;cbv) | refine UM ?_ ?_
 all_goals first | exact f.a1 | skip
 ·refine hk _ _ (bW.pure rfl rfl fun ρ=>dT ?_)
  rw[← hW]
  exact f.c1 hb
 ·refine hk _ _ (bW.pure rfl rfl fun ρ=>dT ?_)
  rw[← hW]
  exact f.c2 (by assumption) hb
 have hl:=f.l (by assumption) (by assumption)
 have yes:=f.yes (by assumption) (by assumption)
 have no:=f.no (by assumption) (by assumption)
 have a2:=f.a2
 clear f
 refine hL _ _ _ (aQ (un:=⟨false,some [0,1,2,4,21,23,24,25,26,41]⟩) tok aa7 aL (fun k:Int=>⟨[(25,⟨[], .c (.s (.int .i64 k))⟩),(24,⟨[], .c (.s (.int .i64 (A.len Z)))⟩),(23,⟨[], .c (.s (.hs 0))⟩)],[(0, .vec false .i3 Z)],1⟩) (fun k=>AnI (aY Z) (fun k=>WS (cK Z k)) k) (fun k=>(aY Z - k).toNat) 0 i0 ?_ (fun _ i hi=>by have:=hWr i hi;simp at this;show i < 1;omega) ?_)
 ·exact⟨⟨⟨rfl,rfl,fun _=>rfl⟩,⟨rfl,rfl,fun _=>rfl⟩,⟨rfl,rfl,fun _=>rfl⟩,trivial⟩,⟨aF rfl,trivial⟩,rfl,rfl⟩
 clear i0
 rintro k hI2 A2 L2 k2 hA2 hL2 hnext2 hexit2 hret2
 have hn2:A2.len Z=aY Z:=by subst hA2;rfl
 have st2:=fun hb:A2.cmp .lss k (A2.len Z)=true=>c9 hI2 (by omega) A2 hA2 (by rw[← hn2];exact hb)
 have en2:=fun hb:A2.cmp .lss k (A2.len Z)=false=>eK hI2 A2 hA2 (by rw[← hn2];exact hb)
 clear hI2
 rw[hA, ← hA2] at a2
 have bz:=fun k=>ab7 A2 hA2 W hW (A2.get Z k (0,0,0))
 have ez: ∀ k,WS (A2.get Z k (0,0,0))=WS (cK Z k):=fun k=>by rw[hA2];rfl
 rw[hA, ← hA2, ← hW]
 cbv
 repeat' with_reducible first | (intro hb;cbv) | refine UM ?_ ?_
 all_goals first | exact(st2 (by assumption)).o1 | assumption | exact a2 _ _ | skip
 ·have e:=yes ((st2 (by assumption)).ht ((ez k).symm.trans ((bz k).y hb)))
  apply hret2
  clear hexit2 hnext2 hret2 st2 en2
  cbv
  exact hk _ _ (bW.pure rfl rfl fun ρ=>dT (by rw[← hW];exact e))
 ·have e:=yes ((st2 (by assumption)).ht ((ez k).symm.trans (((bz k).n (by assumption)).symm.trans hb)))
  apply hret2
  clear hexit2 hnext2 hret2 st2 en2
  cbv
  exact hk _ _ (bW.pure rfl rfl fun ρ=>dT (by rw[← hW];exact e))
 ·have hn:WS (cK Z k)=false:=(ez k).symm.trans (((bz k).n (by assumption)).symm.trans hb)
  have st:=st2 (by assumption)
  refine hnext2 _ (k+1) (st.nx hn) st.ms ?_
  have ead:=st.ad
  subst hA2 hA
  exact⟨⟨⟨rfl,rfl,leI ead⟩,⟨rfl,rfl,fun _=>rfl⟩,⟨rfl,rfl,fun _=>rfl⟩,trivial⟩,⟨aF rfl,trivial⟩,rfl,rfl⟩
 ·have e:=no (en2 hb).no
  apply hexit2
  clear hexit2 hnext2 hret2 st2 en2
  cbv
  exact hk _ _ (bW.pure rfl rfl fun ρ=>dT (by rw[← hW];exact e))
def gA2 (A:Alg) (W:SI):List (Nat×bU):=(77,aC [.v] A (ZL W)) :: ([])
theorem aa8:COK Tryz.prog (aN (gA2 aA UW)):=aB aaL (bC)
structure OqF (A:Alg) (W:SI) (h c:Int) (Z:List (Int×Int×Int)):Prop where
 c1:A.ite (A.ite (A.ite (A.not (W.side h)) true (A.cmp .lss c 1)) true (A.cmp .gtr c 4096)) true (A.cmp .gtr (A.len Z) 4)=true→false=W.ok h c Z
 l:A.ite (A.ite (A.ite (A.not (W.side h)) true (A.cmp .lss c 1)) true (A.cmp .gtr c 4096)) true (A.cmp .gtr (A.len Z) 4)=false→aY Z < 1000000
 yes:A.ite (A.ite (A.ite (A.not (W.side h)) true (A.cmp .lss c 1)) true (A.cmp .gtr c 4096)) true (A.cmp .gtr (A.len Z) 4)=false→cY (aY Z) (fun k=>WS (cK Z k))=true→false=W.ok h c Z
 no:A.ite (A.ite (A.ite (A.not (W.side h)) true (A.cmp .lss c 1)) true (A.cmp .gtr c 4096)) true (A.cmp .gtr (A.len Z) 4)=false→cY (aY Z) (fun k=>WS (cK Z k))=false→true=W.ok h c Z
theorem acF (A:Alg) (hA:A=aA) (W:SI) (hW:W=UW) (h c:Int) (Z:List (Int×Int×Int)):OqF A W h c Z:=by
 subst hA hW
 have it: ∀ u v:Bool,aA.ite u true v=(u||v):=fun u v=>by cases u <;> rfl
 have e:UW.ok h c Z=(UW.side h&&(!V0 1 4096 c&&(decide (aY Z≤4)&& !cY (aY Z) fun k=>WS (cK Z k)))):=rfl
 have ec:aA.ite (aA.ite (aA.ite (aA.not (UW.side h)) true (aA.cmp .lss c 1)) true (aA.cmp .gtr c 4096)) true (aA.cmp .gtr (aA.len Z) 4)=(!UW.side h||(V0 1 4096 c|| !decide (aY Z≤4))):=by
  rw[it,it,it,Bool.or_assoc,Bool.or_assoc]
  show(!UW.side h||(decide (c < 1)||(decide (c > 4096)||decide (aY Z > 4))))=(!UW.side h||((decide (c < 1)||decide (c > 4096))|| !decide (aY Z≤4)))
  rw[Bool.or_assoc]
  by_cases h:aY Z≤4
  ·rw[decide_eq_true h,decide_eq_false (show ¬ aY Z > 4 by omega)];rfl
  ·rw[decide_eq_false h,decide_eq_true (show aY Z > 4 by omega)];rfl
 constructor <;> rw[ec] <;> (try rw[e]) <;> cases UW.side h <;> cases V0 1 4096 c <;> by_cases hl:aY Z≤4 <;> simp[hl]
 omega
theorem ab6 (A:Alg) (hA:A=aA) (W:SI) (hW:W=UW) (z:Int×Int×Int):A.ite (A.ite (A.ite (A.ite (A.not (W.side z.2.2)) true (A.cmp .lss z.1 0)) true (A.cmp .lss z.2.1 0)) true (A.cmp .gtr z.1 64)) true (A.cmp .gtr z.2.1 64)=WS z:=by
 subst hA hW
 have it: ∀ u v:Bool,aA.ite u true v=(u||v):=fun u v=>by cases u <;> rfl
 rw[it,it,it,it]
 show((((!XC z.2.2||decide (z.1 < 0))||decide (z.2.1 < 0))||decide (z.1 > 64))||decide (z.2.1 > 64))=(!XC z.2.2||((decide (z.1 < 0)||decide (z.1 > 64))||(decide (z.2.1 < 0)||decide (z.2.1 > 64))))
 cases XC z.2.2 <;> cases decide (z.1 < 0) <;> cases decide (z.2.1 < 0) <;> cases decide (z.1 > 64) <;> cases decide (z.2.1 > 64) <;> rfl
theorem Z8:aJ Tryz.prog 47 (aR [.g [.v, .v, .s .i3]] aA (ZV UW)):=by
 refine aW (un:=⟨false,some [0,1,2,3,4,24,29,60]⟩) tok aa8 aL (fn:=Tryz.f47) ?_
 intro w Wr args bs r hg ho hWr A L k hA hL hk
 obtain⟨W,hW⟩:=exE UW
 try rw[← hW]
 try rw[← hA]
 unfold ZV at hg
 split at hg <;> cases hg
 rename_i h c Z
 have f:=acF A hA W hW h c Z
 have pv: ∀ k,A.ite (A.ite (A.ite (A.ite (A.not (W.side (A.get Z k (0,0,0)).2.2)) true (A.cmp .lss (A.get Z k (0,0,0)).1 0)) true (A.cmp .lss (A.get Z k (0,0,0)).2.1 0)) true (A.cmp .gtr (A.get Z k (0,0,0)).1 64)) true (A.cmp .gtr (A.get Z k (0,0,0)).2.1 64)=WS (cK Z k):=fun k=>(ab6 A hA W hW _).trans (by rw[hA];rfl)
 have i0:AnI (aY Z) (fun k=>WS (cK Z k)) 0:=cH (Int.natCast_nonneg _)
 cbv
 repeat' with_reducible first | (intro hb;cbv) | refine UM ?_ ?_
 ·refine hk _ _ (bW.pure rfl rfl fun ρ=>dT ?_)
  rw[← hW]
  exact f.c1 hb
 have hl:=f.l hb
 have yes:=f.yes hb
 have no:=f.no hb
 clear f
 refine hL _ _ _ (aQ (un:=⟨false,some [0,1,2,3,4,24,29,60]⟩) tok aa8 aL (fun k:Int=>⟨[(3,⟨[], .c (.s (.int .i64 k))⟩),(1,⟨[], .c (.s (.hp 1 0))⟩)],[(1, .fix true [.s (.int .i64 h), .s (.int .i64 c), .s (.hs 0)]),(0, .vec false .i3 Z)],2⟩) (fun k=>AnI (aY Z) (fun k=>WS (cK Z k)) k) (fun k=>(aY Z - k).toNat) 0 i0 ?_ (fun _ i hi=>by have:=hWr i hi;simp at this;show i < 2;omega) ?_)
 ·exact⟨⟨⟨rfl,rfl,fun _=>rfl⟩,⟨rfl,rfl,fun _=>rfl⟩,trivial⟩,⟨aF rfl,aF rfl,trivial⟩,rfl,rfl⟩
 clear i0
 rintro k hI2 A2 L2 k2 hA2 hL2 hnext2 hexit2 hret2
 have hn2:A2.len Z=aY Z:=by subst hA2;rfl
 have st2:=fun hb:A2.cmp .lss k (A2.len Z)=true=>c9 hI2 (by omega) A2 hA2 (by rw[← hn2];exact hb)
 have en2:=fun hb:A2.cmp .lss k (A2.len Z)=false=>eK hI2 A2 hA2 (by rw[← hn2];exact hb)
 clear hI2
 rw[hA, ← hA2] at pv
 rw[← hA2, ← hW]
 cbv
 repeat' with_reducible first | (intro hb;cbv) | refine UM ?_ ?_
 all_goals first | exact(st2 (by assumption)).o1 | assumption | skip
 ·have e:=yes ((st2 (by assumption)).ht ((pv k).symm.trans hb))
  apply hret2
  clear hexit2 hnext2 hret2 st2 en2
  cbv
  exact hk _ _ (bW.pure rfl rfl fun ρ=>dT (by rw[← hW];exact e))
 ·have hn:WS (cK Z k)=false:=(pv k).symm.trans hb
  have st:=st2 (by assumption)
  refine hnext2 _ (k+1) (st.nx hn) st.ms ?_
  have ead:=st.ad
  subst hA2 hA
  exact⟨⟨⟨rfl,rfl,leI ead⟩,⟨rfl,rfl,fun _=>rfl⟩,trivial⟩,⟨aF rfl,aF rfl,trivial⟩,rfl,rfl⟩
 ·have e:=no (en2 hb).no
  apply hexit2
  clear hexit2 hnext2 hret2 st2 en2
  cbv
  exact hk _ _ (bW.pure rfl rfl fun ρ=>dT (by rw[← hW];exact e))
def abM (A:Alg) (W:SI):List CV→List Blk→Option LW
 | [.s (.int .i64 a), .s (.hs 0)],[.vec false (.int .i64) l]=>some ⟨[A.cmp .lss (A.len l) 1000000], .c (.s (.int .i64 (W.lst a l))),[],[]⟩
 | _,_=>none
structure LsI (a:Int) (l:List Int) (p:Int×Int):Prop where
 k0:0≤p.1
 k1:p.1≤aY l
 e:p.2=Z2 a l p.1.toNat
structure LsS (A:Alg) (a:Int) (l:List Int) (k m:Int):Prop where
 o1:A.cmp .leq 0 k=true
 nx:LsI a l (k+1,A.mn m (A.get l k 0))
 ad:A.bin .add .i64 k 1=k+1
 ms:(aY l - (k+1)).toNat < (aY l - k).toNat
theorem acB {a:Int} {l:List Int} {k m:Int} (hl:aY l < 1000000) (h:LsI a l (k,m)) (A:Alg) (hA:A=aA) (hb:A.cmp .lss k (A.len l)=true):LsS A a l k m:=by
 subst hA
 obtain⟨k0,k1,e⟩:=h
 simp only at k0 k1 e
 have hb:k < aY l:=of_decide_eq_true hb
 refine⟨bJ _ rfl _ _ k0,⟨by show 0≤k+1;omega,by show k+1≤aY l;omega,?_⟩,by show IntKind.i64.wrap _=_;rw[IntKind.wrap_i64];omega,by omega⟩
 show aA.mn m (aA.get l k 0)=Z2 a l (k+1).toNat
 rw[show(k+1).toNat=k.toNat+1 by omega]
 show _=aA.mn (Z2 a l k.toNat) (mU l (k.toNat:Int))
 rw[Int.toNat_of_nonneg k0,e]
 rfl
theorem Z7:aJ Tryz.prog 52 (aR [.a .v, .a (.s (.int .i64))] aA (abM aA UW)):=by
 refine aW (un:=⟨false,some [0,1,4,6,7,8,9,10]⟩) tok nF aL (fn:=Tryz.f52) ?_
 intro w Wr args bs r hg ho hWr A L k hA hL hk
 obtain⟨W,hW⟩:=exE UW
 try rw[← hW]
 try rw[← hA]
 unfold abM at hg
 split at hg <;> cases hg
 rename_i a l
 have hlen:=(aG ho).1
 simp only[aA,aP,decide_eq_true_eq] at hlen
 have hlen:aY l < 1000000:=by unfold aY;omega
 clear ho
 have i0:LsI a l (0,a):=⟨Int.le_refl _,Int.natCast_nonneg _,rfl⟩
 have er:W.lst a l=Z2 a l l.length:=by rw[hW];rfl
 cbv
 refine hL _ _ _ (aQ (un:=⟨false,some [0,1,4,6,7,8,9,10]⟩) tok nF aL (fun p:Int×Int=>⟨[(9,⟨[], .c (.s (.int .i64 p.1))⟩),(8,⟨[], .c (.s (.int .i64 (A.len l)))⟩),(7,⟨[], .c (.s (.hs 0))⟩),(0,⟨[], .c (.s (.int .i64 p.2))⟩)],[(0, .vec false (.int .i64) l)],1⟩)
  (fun p=>LsI a l p) (fun p=>(aY l - p.1).toNat) (0,a) i0 ?_ (fun _ i hi=>by have:=hWr i hi;simp at this;show i < 1;omega) ?_)
 ·exact⟨⟨⟨rfl,rfl,fun _=>rfl⟩,⟨rfl,rfl,fun _=>rfl⟩,⟨rfl,rfl,fun _=>rfl⟩,⟨rfl,rfl,fun _=>rfl⟩,trivial⟩,⟨aF rfl,trivial⟩,rfl,rfl⟩
 clear i0
 rintro⟨k,m⟩ hI A2 L2 k2 hA2 hL2 hnext hexit hret
 have st:=fun hb=>acB hlen hI A2 hA2 hb
 have en:A2.cmp .lss k (A2.len l)=false→m=W.lst a l:=fun hb=>by
  have h1:=hI.k1
  have h2:=hI.e
  simp only at h1 h2
  rw[er,h2]
  subst hA2
  have hb: ¬ k < aY l:=of_decide_eq_false hb
  have:k=aY l:=by omega
  rw[this];rfl
 clear hI
 rw[hA, ← hA2]
 cbv
 repeat' with_reducible first | (intro hb;cbv) | refine UM ?_ ?_
 all_goals first | exact(st hb).o1 | assumption | skip
 ·have st:=st hb
  refine hnext _ (k+1,_) st.nx st.ms ?_
  have ead:=st.ad
  subst hA2 hA
  exact⟨⟨⟨rfl,rfl,leI ead⟩,⟨rfl,rfl,fun _=>rfl⟩,⟨rfl,rfl,fun _=>rfl⟩,⟨rfl,rfl,fun _=>rfl⟩,trivial⟩,⟨aF rfl,trivial⟩,rfl,rfl⟩
 ·have e:=en hb
  apply hexit
  clear hexit hnext hret st en
  cbv
  refine hk _ _ (bW.pure rfl rfl fun ρ=>dI ?_)
  rw[← hW]
  exact e
theorem aaM:aJ Tryz.prog 81 (aC [.v, .v] aA (aaW aA)):=by
 refine aH (un:=⟨false,none⟩) tok nF aL (fn:=Tryz.f81) ?_
 intro w Wr args bs r hg ho hWr A L k hA hL hk
 try rw[← hA]
 unfold aaW at hg
 split at hg <;> cases hg
 rename_i a b n
 cbv
 repeat' with_reducible first | (intro hb;cbv) | refine UM ?_ ?_
 exact hk _ _ (bE.pure rfl fun ρ=>by subst hA;rfl)
def gB1 (A:Alg) (C:SC):List (Nat×bU):=(50,aC [.v] A (Wq C)) :: (80,aC [.v] A (Wv A)) :: (81,aC [.v, .v] A (aaW A)) :: ([])
theorem abI:COK Tryz.prog (aN (gB1 aA UT)):=aB Yo (aB W7 (aB aaM (bC)))
theorem aaZ:aJ Tryz.prog 51 (aC [.v, .v, .v] aA (XH UT)):=by
 refine aH (un:=⟨false,some [0,1,2,3,6,7]⟩) tok abI aL (fn:=Tryz.f51) ?_
 intro w Wr args bs r hg ho hWr A L k hA hL hk
 obtain⟨C,hC⟩:=exE UT
 try rw[← hC]
 try rw[← hA]
 unfold XH at hg
 split at hg <;> cases hg
 rename_i x y s p q
 have e:A.ite (A.ite (C.is x y s) (A.ite (A.cmp .geq p x) (A.cmp .leq p (A.bin .add .i64 x s)) false) false) (A.ite (A.cmp .geq q y) (A.cmp .leq q (A.bin .add .i64 y s)) false) false=C.has x y s p q:=by
  rw[← YY A hA C hC x y s p q]
  subst hA
  have ia: ∀ u v:Bool,aA.ite u v false=(u&&v):=fun u v=>by cases u <;> rfl
  simp only[ia]
  cases C.is x y s <;> cases aA.cmp .geq p x <;> cases aA.cmp .leq p (aA.bin .add .i64 x s) <;> cases aA.cmp .geq q y <;> cases aA.cmp .leq q (aA.bin .add .i64 y s) <;> rfl
 cbv
 repeat' with_reducible first | (intro hb;cbv) | refine UM ?_ ?_
 refine hk _ _ (bE.pure rfl fun ρ=>yQ ?_)
 rw[← hC]
 exact e
structure aa3 (h x y s:Int) (Z:List (Int×Int×Int)) (k m:Int):Prop where
 k0:0≤k
 k1:k≤aY Z
 e:m=ZO h x y s Z k.toNat
structure LzI (x y s:Int) (Z:List (Int×Int×Int)) (k:Int) (R:List Int):Prop where
 k0:0≤k
 k1:k≤aY Z
 e:R=aaB x y s Z k.toNat
structure ab2 (A:Alg) (W:SI) (C:SC) (h c x y s:Int) (Z:List (Int×Int×Int)):Prop where
 c1:A.ite (A.not (W.ok h c Z)) true (A.not (C.is x y s))=true→0=W.lim h c Z x y s
 l:A.ite (A.not (W.ok h c Z)) true (A.not (C.is x y s))=false→aY Z≤4
 er:A.ite (A.not (W.ok h c Z)) true (A.not (C.is x y s))=false→W.lim h c Z x y s=ZO h x y s Z Z.length
theorem aaN (A:Alg) (hA:A=aA) (W:SI) (hW:W=UW) (C:SC) (hC:C=UT) (h c x y s:Int) (Z:List (Int×Int×Int)):ab2 A W C h c x y s Z:=by
 subst hA hW hC
 have it: ∀ u v:Bool,aA.ite u true v=(u||v):=fun u v=>by cases u <;> rfl
 have ec:aA.ite (aA.not (UW.ok h c Z)) true (aA.not (UT.is x y s))= !(ZN h c Z&&Vq x y s):=by
  rw[it]
  show(!ZN h c Z|| !Vq x y s)=_
  rw[Bool.not_and]
 have e:UW.lim h c Z x y s=if ZN h c Z&&Vq x y s then ZO h x y s Z Z.length else 0:=rfl
 refine⟨fun g=>?_,fun g=>?_,fun g=>?_⟩ <;> rw[ec] at g
 ·rw[Bool.not_eq_true'] at g;rw[e,g];rfl
 ·rw[Bool.not_eq_false',Bool.and_eq_true] at g;exact(Z0 g.1).2.2.1
 ·rw[Bool.not_eq_false'] at g;rw[e,g];rfl
structure ab3 (A:Alg) (C:SC) (h x y s:Int) (Z:List (Int×Int×Int)) (k m:Int):Prop where
 o1:A.cmp .leq 0 k=true
 n1:C.has x y s (A.get Z k (0,0,0)).1 (A.get Z k (0,0,0)).2.1=true→aa3 h x y s Z (k+1) (A.mn m (A.get Z k (0,0,0)).2.2)
 n0:C.has x y s (A.get Z k (0,0,0)).1 (A.get Z k (0,0,0)).2.1=false→aa3 h x y s Z (k+1) m
 ad:A.bin .add .i64 k 1=k+1
 ms:(aY Z - (k+1)).toNat < (aY Z - k).toNat
theorem abO {h x y s:Int} {Z:List (Int×Int×Int)} {k m:Int} (hl:aY Z≤4) (i:aa3 h x y s Z k m) (A:Alg) (hA:A=aA) (C:SC) (hC:C=UT) (hb:A.cmp .lss k (A.len Z)=true):ab3 A C h x y s Z k m:=by
 subst hA hC
 obtain⟨k0,k1,e⟩:=i
 have hb:k < aY Z:=of_decide_eq_true hb
 have ek:(k+1).toNat=k.toNat+1:=by omega
 have ek2:((k.toNat:Nat):Int)=k:=Int.toNat_of_nonneg k0
 refine⟨bJ _ rfl _ _ k0,fun g=>⟨by omega,by omega,?_⟩,fun g=>⟨by omega,by omega,?_⟩,by show IntKind.i64.wrap _=_;rw[IntKind.wrap_i64];omega,by omega⟩
 ·have g:Z3 x y s (cK Z k).1 (cK Z k).2.1=true:=g
  rw[ek,ZO,ek2,if_pos g, ← e]
  rfl
 ·have g:Z3 x y s (cK Z k).1 (cK Z k).2.1=false:=g
  rw[ek,ZO,ek2,if_neg (by rw[g];decide)]
  exact e
structure LzS (A:Alg) (C:SC) (x y s:Int) (Z:List (Int×Int×Int)) (k:Int) (R:List Int):Prop where
 o1:A.cmp .leq 0 k=true
 cap:A.cmp .leq (A.iadd (A.len R) (A.len [(A.get Z k (0,0,0)).2.2])) 1000000=true
 n1:C.has x y s (A.get Z k (0,0,0)).1 (A.get Z k (0,0,0)).2.1=true→LzI x y s Z (k+1) (A.app R [(A.get Z k (0,0,0)).2.2])
 n0:C.has x y s (A.get Z k (0,0,0)).1 (A.get Z k (0,0,0)).2.1=false→LzI x y s Z (k+1) R
 ad:A.bin .add .i64 k 1=k+1
 ms:(aY Z - (k+1)).toNat < (aY Z - k).toNat
theorem acC {x y s:Int} {Z:List (Int×Int×Int)} {k:Int} {R:List Int} (hl:aY Z≤4) (i:LzI x y s Z k R) (A:Alg) (hA:A=aA) (C:SC) (hC:C=UT) (hb:A.cmp .lss k (A.len Z)=true):LzS A C x y s Z k R:=by
 subst hA hC
 obtain⟨k0,k1,e⟩:=i
 have hb:k < aY Z:=of_decide_eq_true hb
 have ek:(k+1).toNat=k.toNat+1:=by omega
 have ek2:((k.toNat:Nat):Int)=k:=Int.toNat_of_nonneg k0
 have hr:R.length≤4:=by rw[e];have:=ZQ x y s Z k.toNat;omega
 refine⟨bJ _ rfl _ _ k0,bJ _ rfl _ _ (by show(R.length:Int)+1≤1000000;omega),fun g=>⟨by omega,by omega,?_⟩,fun g=>⟨by omega,by omega,?_⟩,by show IntKind.i64.wrap _=_;rw[IntKind.wrap_i64];omega,by omega⟩
 ·have g:Z3 x y s (cK Z k).1 (cK Z k).2.1=true:=g
  rw[ek,aaB,ek2,if_pos g, ← e]
  rfl
 ·have g:Z3 x y s (cK Z k).1 (cK Z k).2.1=false:=g
  rw[ek,aaB,ek2,if_neg (by rw[g];decide)]
  exact e
def gB2 (A:Alg) (W:SI) (C:SC):List (Nat×bU):=(49,aR [.g [.v, .v, .s .i3]] A (ZV W)) :: (50,aC [.v] A (Wq C)) :: (51,aC [.v, .v, .v] A (XH C)) :: (52,aR [.a .v, .a (.s (.int .i64))] A (abM A W)) :: ([])
theorem aa9:COK Tryz.prog (aN (gB2 aA UW UT)):=aB aa1 (aB Yo (aB aaZ (aB Z7 (bC))))
def WT (W:SI):List CV→List Blk→Option LW
 | [.g [.s (.int .i64 h), .s (.int .i64 c), .s (.hs 0)], .g [.s (.int .i64 x), .s (.int .i64 y), .s (.int .i64 s)]],[.vec false .i3 Z]=>some ⟨[], .c (.s (.int .i64 (W.lim h c Z x y s))),[],[]⟩
 | _,_=>none
theorem Xh:aJ Tryz.prog 27 (aR [.g [.v, .v, .s .i3], .a .v] aA (WT UW)):=by
 refine aW (un:=⟨false,some [0,1,2,3,4,5,7,15,17,18,19,20,28]⟩) tok aa9 aL (fn:=Tryz.f27) ?_
 intro w Wr args bs r hg ho hWr A L k hA hL hk
 obtain⟨C,hC⟩:=exE UT
 obtain⟨W,hW⟩:=exE UW
 try rw[← hC]
 try rw[← hW]
 try rw[← hA]
 unfold WT at hg
 split at hg <;> cases hg
 rename_i h c x y s Z
 have f:=aaN A hA W hW C hC h c x y s Z
 cbv
 repeat' with_reducible first | (intro hb;cbv) | refine UM ?_ ?_
 ·refine hk _ _ (bW.pure rfl rfl fun ρ=>dL ?_)
  rw[← hW]
  exact f.c1 hb
 have hl:=f.l hb
 have er:=f.er hb
 have i0:LzI x y s Z 0 []:=⟨Int.le_refl _,Int.natCast_nonneg _,rfl⟩
 clear f
 refine hL _ _ _ (gM (un:=⟨false,some [0,1,2,3,4,5,7,15,17,18,19,20,28]⟩) tok aa9 aL 1 (fun i hi=>by have:=hWr i hi;simp at this;show i < 1;omega) (fun p:Int×List Int=>⟨[(19,⟨[], .c (.s (.int .i64 p.1))⟩),(18,⟨[], .c (.s (.int .i64 (A.len Z)))⟩),(17,⟨[], .c (.s (.hs 0))⟩),(5,⟨[], .c (.s (.hs 3))⟩),(3,⟨[], .c (.s (.hp 2 0))⟩),(2,⟨[], .c (.s (.hp 1 0))⟩)],[(0, .vec false .i3 Z),(1, .fix true [.s (.int .i64 h), .s (.int .i64 c), .s (.hs 0)]),(2, .fix true [.s (.int .i64 x), .s (.int .i64 y), .s (.int .i64 s)]),(3, .vec true (.int .i64) p.2)],4⟩)
  (fun p=>LzI x y s Z p.1 p.2) (fun p=>(aY Z - p.1).toNat) (0,[]) i0 [(3, .nils)] ?_ (fun _=>Nat.le_of_ble_eq_true rfl) ?_)
 ·exact⟨⟨⟨rfl,rfl,fun _=>rfl⟩,⟨rfl,rfl,fun _=>rfl⟩,⟨rfl,rfl,fun _=>rfl⟩,⟨rfl,rfl,fun _=>rfl⟩,⟨rfl,rfl,fun _=>rfl⟩,⟨rfl,rfl,fun _=>rfl⟩,trivial⟩,⟨⟨rfl,rfl,rfl,rfl,fun h=>h⟩,⟨rfl,rfl,fun _=>rfl⟩,⟨rfl,rfl,fun _=>rfl⟩,rfl,trivial⟩,rfl,rfl,rfl,rfl⟩
 clear i0
 rintro⟨k,R⟩ hI A2 L2 k2 hA2 hL2 hnext hexit hret
 have st:=fun hb=>acC hl hI A2 hA2 C hC hb
 have en:A2.cmp .lss k (A2.len Z)=false→A2.cmp .lss (A2.len R) 1000000=true∧W.lst h R=W.lim h c Z x y s:=fun hb=>by
  obtain⟨k0,k1,e⟩:=hI
  simp only at k0 k1 e
  subst hA2
  have hb: ¬ k < aY Z:=of_decide_eq_false hb
  have hk:k=aY Z:=by omega
  have hr:R.length≤4:=by rw[e];have:=ZQ x y s Z k.toNat;omega
  refine⟨bH _ rfl _ _ (by show(R.length:Int) < 1000000;omega),?_⟩
  rw[er,e,hk,hW]
  exact ZW h x y s Z Z.length
 clear hI
 rw[hA, ← hA2, ← hW, ← hC]
 cbv
 repeat' with_reducible first | (intro hb;cbv) | refine UM ?_ ?_
 all_goals first | assumption | exact(st (by assumption)).o1 | exact(st (by assumption)).cap | skip
 ·have st:=st (by assumption)
  refine hnext _ (k+1,_) [(3, .hs 6)] (st.n1 hb) st.ms ?_
  have ead:=st.ad
  subst hA2 hA
  exact⟨⟨⟨rfl,rfl,leI ead⟩,⟨rfl,rfl,fun _=>rfl⟩,⟨rfl,rfl,fun _=>rfl⟩,⟨rfl,rfl,fun _=>rfl⟩,⟨rfl,rfl,fun _=>rfl⟩,⟨rfl,rfl,fun _=>rfl⟩,trivial⟩,⟨⟨rfl,rfl,rfl,rfl,fun h=>h⟩,⟨rfl,rfl,fun _=>rfl⟩,⟨rfl,rfl,fun _=>rfl⟩,⟨rfl,rfl,rfl,rfl,fun h=>h⟩,trivial⟩,rfl,rfl,rfl,rfl⟩
 ·have st:=st (by assumption)
  refine hnext _ (k+1,R) [] (st.n0 hb) st.ms ?_
  have ead:=st.ad
  subst hA2 hA
  exact⟨⟨⟨rfl,rfl,leI ead⟩,⟨rfl,rfl,fun _=>rfl⟩,⟨rfl,rfl,fun _=>rfl⟩,⟨rfl,rfl,fun _=>rfl⟩,⟨rfl,rfl,fun _=>rfl⟩,⟨rfl,rfl,fun _=>rfl⟩,trivial⟩,⟨⟨rfl,rfl,rfl,rfl,fun h=>h⟩,⟨rfl,rfl,fun _=>rfl⟩,⟨rfl,rfl,fun _=>rfl⟩,⟨rfl,rfl,rfl,rfl,fun h=>h⟩,trivial⟩,rfl,rfl,rfl,rfl⟩
 ·obtain⟨e1,e2⟩:=en hb
  apply hexit
  clear hexit hnext hret st en
  cbv
  repeat' with_reducible first | (intro hb;cbv) | refine UM ?_ ?_
  ·rw[hA, ← hA2];exact e1
  refine hk _ _ (bW.pure rfl rfl fun ρ=>dI ?_)
  rw[← hW]
  exact e2
def gB3 (A:Alg) (W:SI) (C:SC):List (Nat×bU):=(47,aR [.g [.v, .v, .s .i3]] A (ZV W)) :: (15,aC [.v] A (Wq C)) :: (22,aC [.v, .v, .v] A (XH C)) :: ([])
theorem abA:COK Tryz.prog (aN (gB3 aA UW UT)):=aB Z8 (aB Vk (aB XN (bC)))
theorem Z9:aJ Tryz.prog 28 (aR [.g [.v, .v, .s .i3], .a .v] aA (WT UW)):=by
 refine aW (un:=⟨false,some [0,1,2,3,4,5,6,14,21,37]⟩) tok abA aL (fn:=Tryz.f28) ?_
 intro w Wr args bs r hg ho hWr A L k hA hL hk
 obtain⟨C,hC⟩:=exE UT
 obtain⟨W,hW⟩:=exE UW
 try rw[← hC]
 try rw[← hW]
 try rw[← hA]
 unfold WT at hg
 split at hg <;> cases hg
 rename_i h c x y s Z
 have f:=aaN A hA W hW C hC h c x y s Z
 cbv
 repeat' with_reducible first | (intro hb;cbv) | refine UM ?_ ?_
 ·refine hk _ _ (bW.pure rfl rfl fun ρ=>dL ?_)
  rw[← hW]
  exact f.c1 hb
 have hl:=f.l hb
 have er:=f.er hb
 have i0:aa3 h x y s Z 0 h:=⟨Int.le_refl _,Int.natCast_nonneg _,rfl⟩
 clear f
 refine hL _ _ _ (aQ (un:=⟨false,some [0,1,2,3,4,5,6,14,21,37]⟩) tok abA aL (fun p:Int×Int=>⟨[(6,⟨[], .c (.s (.int .i64 p.1))⟩),(5,⟨[], .c (.s (.int .i64 p.2))⟩),(3,⟨[], .c (.s (.hp 2 0))⟩),(2,⟨[], .c (.s (.hp 1 0))⟩)],[(0, .vec false .i3 Z),(1, .fix true [.s (.int .i64 h), .s (.int .i64 c), .s (.hs 0)]),(2, .fix true [.s (.int .i64 x), .s (.int .i64 y), .s (.int .i64 s)])],3⟩)
  (fun p=>aa3 h x y s Z p.1 p.2) (fun p=>(aY Z - p.1).toNat) (0,h) i0 ?_ (fun _ i hi=>by have:=hWr i hi;simp at this;show i < 3;omega) ?_)
 ·exact⟨⟨⟨rfl,rfl,fun _=>rfl⟩,⟨rfl,rfl,fun _=>rfl⟩,⟨rfl,rfl,fun _=>rfl⟩,⟨rfl,rfl,fun _=>rfl⟩,trivial⟩,⟨aF rfl,aF rfl,aF rfl,trivial⟩,rfl,rfl⟩
 clear i0
 rintro⟨k,m⟩ hI A2 L2 k2 hA2 hL2 hnext hexit hret
 have st:=fun hb=>abO hl hI A2 hA2 C hC hb
 have en:A2.cmp .lss k (A2.len Z)=false→m=W.lim h c Z x y s:=fun hb=>by
  obtain⟨k0,k1,e⟩:=hI
  simp only at k0 k1 e
  subst hA2
  have hb: ¬ k < aY Z:=of_decide_eq_false hb
  have hk:k=aY Z:=by omega
  rw[er,e,hk]
  rfl
 clear hI
 rw[← hA2, ← hW, ← hC]
 cbv
 repeat' with_reducible first | (intro hb;cbv) | refine UM ?_ ?_
 all_goals first | assumption | exact(st (by assumption)).o1 | skip
 ·have st:=st (by assumption)
  refine hnext _ (k+1,_) (st.n1 hb) st.ms ?_
  have ead:=st.ad
  subst hA2 hA
  exact⟨⟨⟨rfl,rfl,leI ead⟩,⟨rfl,rfl,fun _=>rfl⟩,⟨rfl,rfl,fun _=>rfl⟩,⟨rfl,rfl,fun _=>rfl⟩,trivial⟩,⟨aF rfl,aF rfl,aF rfl,trivial⟩,rfl,rfl⟩
 ·have st:=st (by assumption)
  refine hnext _ (k+1,m) (st.n0 hb) st.ms ?_
  have ead:=st.ad
  subst hA2 hA
  exact⟨⟨⟨rfl,rfl,leI ead⟩,⟨rfl,rfl,fun _=>rfl⟩,⟨rfl,rfl,fun _=>rfl⟩,⟨rfl,rfl,fun _=>rfl⟩,trivial⟩,⟨aF rfl,aF rfl,aF rfl,trivial⟩,rfl,rfl⟩
 ·have e:=en hb
  apply hexit
  clear hexit hnext hret st en
  cbv
  refine hk _ _ (bW.pure rfl rfl fun ρ=>dI ?_)
  rw[← hW]
  exact e
theorem aaR (x y s:Int) (V S:List (Int×Int×Int)) (l:List Pt):UP.any x y s V S l=decide (0 < (UP.all x y s V S l).length):=by
 show(decide (Cm V S l=0)&&cY (aY S) (VM x y s V S))=decide (0 < (if Cm V S l=0 then V4 x y s V S S.length else[]).length)
 by_cases h:Cm V S l=0
 ·rw[if_pos h,aaD];simp[h]
 ·rw[if_neg h];simp[h]
def VI (U:SU) (W:SI):List CV→List Blk→Option LW
 | [.g [.s (.hs 0), .s (.hs 1), .s (.hs 2)], .g [.s (.int .i64 h), .s (.int .i64 c), .s (.hs 3)], .g [.s (.int .i64 x), .s (.int .i64 y), .s (.int .i64 s)]],[.vec false .i3 V, .vec false .i3 S, .vec false .pt l, .vec false .i3 Z]=>some ⟨[U.inb V], .c (.s (.bool (W.must V S l h c Z x y s))),[],[]⟩
 | _,_=>none
def abF (A:Alg) (U:SU) (W:SI) (V S:List (Int×Int×Int)) (l:List Pt) (h c:Int) (Z:List (Int×Int×Int)) (x y s:Int):Bool:=A.ite (A.ite (A.cmp .eql (W.lim h c Z x y s) 0) true (A.cmp .eql s 1)) true (A.cmp .neq (U.check V S l) 0)
structure ab4 (A:Alg) (U:SU) (W:SI) (B:SB) (V S:List (Int×Int×Int)) (l:List Pt) (h c:Int) (Z:List (Int×Int×Int)) (x y s:Int):Prop where
 c1:abF A U W V S l h c Z x y s=true→false=W.must V S l h c Z x y s
 c0:abF A U W V S l h c Z x y s=false→A.ite (A.cmp .gtr s (W.lim h c Z x y s)) true (B.any x y s V S l)=W.must V S l h c Z x y s
theorem abP (A:Alg) (hA:A=aA) (U:SU) (hU:U=bN) (W:SI) (hW:W=UW) (B:SB) (hB:B=UP) (V S:List (Int×Int×Int)) (l:List Pt) (h c:Int) (Z:List (Int×Int×Int)) (x y s:Int):ab4 A U W B V S l h c Z x y s:=by
 subst hA hU hW hB
 have it: ∀ u v:Bool,aA.ite u true v=(u||v):=fun u v=>by cases u <;> rfl
 have e:UW.must V S l h c Z x y s=(decide (Cm V S l=0)&&(ZN h c Z&&(Vq x y s&&(decide (s > 1)&&(decide (s > Vu h c Z x y s)||decide (0 < (UP.all x y s V S l).length)))))):=rfl
 have ec:abF aA bN UW V S l h c Z x y s=((decide (Vu h c Z x y s=0)||decide (s=1))|| !decide (Cm V S l=0)):=by
  unfold abF
  rw[it,it]
  show(((Vu h c Z x y s == 0)||(s == 1))||(Cm V S l != 0))=_
  by_cases h1:Vu h c Z x y s=0 <;> by_cases h2:s=1 <;> by_cases h3:Cm V S l=0 <;> simp[h1,h2,h3]
 have z:= @aaF h c Z x y s
 refine⟨fun g=>?_,fun g=>?_⟩
 ·rw[ec] at g
  rw[e]
  by_cases h3:Cm V S l=0
  ·by_cases h1:Vu h c Z x y s=0
   ·have:=z.1 h1
    cases ho:ZN h c Z
    ·simp
    ·rw[ho,Bool.true_and] at this
     rw[this];simp
   ·by_cases h2:s=1
    ·subst h2;simp
    ·simp[h1,h2,h3] at g
  ·rw[decide_eq_false h3];rfl
 ·rw[ec] at g
  simp at g
  obtain⟨⟨g1,g2⟩,g3⟩:=g
  have ho:(ZN h c Z&&Vq x y s)=true:=by
   cases hh:ZN h c Z&&Vq x y s
   ·exact absurd (z.2 hh) g1
   ·rfl
  rw[Bool.and_eq_true] at ho
  have hs:=(Vb ho.2).s0
  rw[it,aaR,e,decide_eq_true g3,ho.1,ho.2,decide_eq_true (show s > 1 by omega)]
  rfl
def gC1 (A:Alg) (U:SU) (W:SI) (B:SB):List (Nat×bU):=(27,aR [.g [.v, .v, .s .i3], .a .v] A (WT W)) :: (46,aR [.g [.s .i3, .s .i3, .s .pt]] A (uI U)) :: (18,aR [.g [.s .i3, .s .i3, .s .pt], .a .v] A (W3 U B)) :: ([])
theorem abJ:COK Tryz.prog (aN (gC1 aA bN UW UP)):=aB Xh (aB wE (aB WG (bC)))
theorem V3:aJ Tryz.prog 25 (aR [.g [.s .i3, .s .i3, .s .pt], .g [.v, .v, .s .i3], .a .v] aA (VI bN UW)):=by
 refine aW (un:=⟨false,some [0,1,2,3,4,5,6,7,22]⟩) tok abJ aL (fn:=Tryz.f25) ?_
 intro w Wr args bs r hg ho hWr A L k hA hL hk
 obtain⟨B,hB⟩:=exE UP
 obtain⟨U,hU⟩:=exE bN
 obtain⟨W,hW⟩:=exE UW
 try rw[← hB]
 try rw[← hU]
 try rw[← hW]
 try rw[← hA]
 unfold VI at hg
 split at hg <;> cases hg
 rename_i h c x y s V S l Z
 have o1:=(aG ho).1
 rw[← hU] at o1
 clear ho
 have f:=abP A hA U hU W hW B hB V S l h c Z x y s
 have im: ∀ b c,c=true→A.imp b c=true:=fun b c h=>by rw[h,hA];cases b <;> rfl
 cbv
 repeat' with_reducible first | (intro hb;cbv) | refine UM ?_ ?_
 all_goals first | exact im _ _ o1 | exact o1 | skip
 ·exact hk _ _ (bW.pure rfl rfl fun ρ=>dT (by rw[← hW];exact f.c1 hb))
 ·exact hk _ _ (bW.pure rfl rfl fun ρ=>dB (by rw[← hW];exact f.c0 (by assumption)))
def aaX (A:Alg) (U:SU) (C:SC) (W:SI) (B:SB):List CV→List Blk→Option LW
 | [.g [.s (.hs 0), .s (.hs 1), .s (.hs 2)], .g [.s (.int .i64 h), .s (.int .i64 c), .s (.hs 3)], .g [.s (.int .i64 x), .s (.int .i64 y), .s (.int .i64 s)]],[.vec false .i3 V, .vec false .i3 S, .vec false .pt l, .vec false .i3 Z]=>some ⟨[A.cmp .eql (U.check V S l) 0,C.is x y s], .c (.s (.bool (A.ite (A.cmp .gtr s 1) (A.ite (A.cmp .gtr s (W.lim h c Z x y s)) true (A.cmp .gtr (A.len (B.all x y s V S l)) 0)) false))),[],[]⟩
 | _,_=>none
def gC2 (A:Alg) (U:SU) (C:SC) (W:SI) (B:SB):List (Nat×bU):=(28,aR [.g [.v, .v, .s .i3], .a .v] A (WT W)) :: (16,aR [.g [.s .i3, .s .i3, .s .pt], .a .v] A (XF A U C B)) :: ([])
theorem abK:COK Tryz.prog (aN (gC2 aA bN UT UW UP)):=aB Z9 (aB XL (bC))
theorem aa2:aJ Tryz.prog 48 (aR [.g [.s .i3, .s .i3, .s .pt], .g [.v, .v, .s .i3], .a .v] aA (aaX aA bN UT UW UP)):=by
 refine aW (un:=⟨false,some [1000010,3000017,0,1,2,3,4,5,6]⟩) tok abK aL (fn:=Tryz.f48) ?_
 intro w Wr args bs r hg ho hWr A L k hA hL hk
 obtain⟨B,hB⟩:=exE UP
 obtain⟨C,hC⟩:=exE UT
 obtain⟨U,hU⟩:=exE bN
 obtain⟨W,hW⟩:=exE UW
 try rw[← hB]
 try rw[← hC]
 try rw[← hU]
 try rw[← hW]
 try rw[← hA]
 unfold aaX at hg
 split at hg <;> cases hg
 rename_i h c x y s V S l Z
 have o1:=(aG ho).1
 have o2:=(aG (aG ho).2).1
 rw[← hU, ← hA] at o1
 rw[← hC] at o2
 clear ho
 have b1: ∀ b c,b=c→A.beq b c=true:=fun b c h=>by subst hA h;show(b == b)=true;cases b <;> rfl
 have it: ∀ b,A.ite true b false=b:=fun b=>by rw[hA];rfl
 have t1: ∀ b,A.ite true true b=true:=fun b=>by rw[hA];rfl
 have t0: ∀ b,A.ite false true b=b:=fun b=>by rw[hA];rfl
 have f0: ∀ b,A.ite false b false=false:=fun b=>by rw[hA];rfl
 have e: ∀ u v w:Bool,A.cmp .gtr s 1=u→A.cmp .gtr s (W.lim h c Z x y s)=v→A.cmp .gtr (A.len (B.all x y s V S l)) 0=w→aA.ite (aA.cmp .gtr s 1) (aA.ite (aA.cmp .gtr s (UW.lim h c Z x y s)) true (aA.cmp .gtr (aA.len (UP.all x y s V S l)) 0)) false=A.ite u (A.ite v true w) false:=fun u v w h1 h2 h3=>by rw[← hA, ← hW, ← hB,h1,h2,h3]
 cbv
 refine IL (A.cmp .gtr s 1) (fun h1=>Or.inl ?_) (fun h1=>Or.inr ?_)
 ·refine IL (A.cmp .gtr s (W.lim h c Z x y s)) (fun h2=>Or.inl ?_) (fun h2=>Or.inr ?_)
  ·repeat' with_reducible first | (intro hb;cbv) | refine UM ?_ ?_
   ·exact b1 _ _ h1
   ·exact b1 _ _ h2
   ·exact hk _ _ (bW.pure rfl rfl fun ρ=>dT (by rw[e _ _ _ h1 h2 rfl,it,t1]))
  ·repeat' with_reducible first | (intro hb;cbv) | refine UM ?_ ?_
   all_goals first | exact b1 _ _ h1 | exact b1 _ _ h2 | exact o1 | exact o2 | skip
   exact hk _ _ (bW.pure rfl rfl fun ρ=>dB (by rw[e _ _ _ h1 h2 rfl,it,t0]))
 ·refine Or.inl ?_
  repeat' with_reducible first | (intro hb;cbv) | refine UM ?_ ?_
  ·exact b1 _ _ h1
  ·exact hk _ _ (bW.pure rfl rfl fun ρ=>dT (by rw[e _ _ _ h1 rfl rfl,f0]))
structure ab5 (A:Alg) (U:SU) (O:SO) (W:SI) (C:SC) (B:SB) (V S:List (Int×Int×Int)) (l:List Pt) (h c:Int) (Z:List (Int×Int×Int)) (x y s:Int):Prop where
 g1:A.imp (A.beq (A.ite (A.ite (A.cmp .eql (O.check V S l) 0) (W.ok h c Z) false) (C.is x y s) false) true) (A.cmp .eql (U.check V S l) 0)=true
 g2:A.imp (A.beq (A.ite (A.ite (A.cmp .eql (O.check V S l) 0) (W.ok h c Z) false) (C.is x y s) false) true) (C.is x y s)=true
 v:A.ite (A.ite (A.ite (A.cmp .eql (O.check V S l) 0) (W.ok h c Z) false) (C.is x y s) false) (A.ite (A.cmp .gtr s 1) (A.ite (A.cmp .gtr s (W.lim h c Z x y s)) true (A.cmp .gtr (A.len (B.all x y s V S l)) 0)) false) false=W.must V S l h c Z x y s
theorem abQ (A:Alg) (hA:A=aA) (U:SU) (hU:U=bN) (O:SO) (hO:O=pE) (W:SI) (hW:W=UW) (C:SC) (hC:C=UT) (B:SB) (hB:B=UP) (V S:List (Int×Int×Int)) (l:List Pt) (h c:Int) (Z:List (Int×Int×Int)) (x y s:Int):ab5 A U O W C B V S l h c Z x y s:=by
 subst hA hU hO hW hC hB
 have e:pE.check V S l=Cm V S l:=(Fr V S l).symm
 have ia: ∀ u v:Bool,aA.ite u v false=(u&&v):=fun u v=>by cases u <;> rfl
 have it: ∀ u v:Bool,aA.ite u true v=(u||v):=fun u v=>by cases u <;> rfl
 have ek:aA.cmp .eql (pE.check V S l) 0=decide (Cm V S l=0):=by rw[e];show(Cm V S l == 0)=_;by_cases h:Cm V S l=0 <;> simp[h]
 have ek2:aA.cmp .eql (bN.check V S l) 0=decide (Cm V S l=0):=by show(Cm V S l == 0)=_;by_cases h:Cm V S l=0 <;> simp[h]
 refine⟨?_,?_,?_⟩
 ·rw[ia,ia,ek,ek2]
  cases decide (Cm V S l=0) <;> cases UW.ok h c Z <;> cases UT.is x y s <;> rfl
 ·rw[ia,ia,ek]
  cases decide (Cm V S l=0) <;> cases UW.ok h c Z <;> cases UT.is x y s <;> rfl
 ·rw[ia,ia,ia,ia,it,ek]
  show(((decide (Cm V S l=0)&&ZN h c Z)&&Vq x y s)&&(decide (s > 1)&&(decide (s > Vu h c Z x y s)||decide ((((UP.all x y s V S l).length:Nat):Int) > 0))))=Vz V S l h c Z x y s
  have:decide ((((UP.all x y s V S l).length:Nat):Int) > 0)=decide (0 < (UP.all x y s V S l).length):=by
   by_cases hh:0 < (UP.all x y s V S l).length
   ·rw[decide_eq_true hh];exact decide_eq_true (by omega)
   ·rw[decide_eq_false hh];exact decide_eq_false (by omega)
  rw[this,Bool.and_assoc,Bool.and_assoc]
  rfl
def gC3 (A:Alg) (U:SU) (O:SO) (W:SI) (C:SC) (B:SB):List (Nat×bU):=(14,aR [.g [.s .i3, .s .i3, .s .pt]] A (xV U O)) :: (47,aR [.g [.v, .v, .s .i3]] A (ZV W)) :: (15,aC [.v] A (Wq C)) :: (48,aR [.g [.s .i3, .s .i3, .s .pt], .g [.v, .v, .s .i3], .a .v] A (aaX A U C W B)) :: ([])
theorem abL:COK Tryz.prog (aN (gC3 aA bN pE UW UT UP)):=aB DU (aB Z8 (aB Vk (aB aa2 (bC))))
theorem aaJ:aJ Tryz.prog 26 (aR [.g [.s .i3, .s .i3, .s .pt], .g [.v, .v, .s .i3], .a .v] aA (VI bN UW)):=by
 refine aW (un:=⟨false,some [0,1,2,3,4,5,6]⟩) tok abL aL (fn:=Tryz.f26) ?_
 intro w Wr args bs r hg ho hWr A L k hA hL hk
 obtain⟨B,hB⟩:=exE UP
 obtain⟨C,hC⟩:=exE UT
 obtain⟨O,hO⟩:=exE pE
 obtain⟨U,hU⟩:=exE bN
 obtain⟨W,hW⟩:=exE UW
 try rw[← hB]
 try rw[← hC]
 try rw[← hO]
 try rw[← hU]
 try rw[← hW]
 try rw[← hA]
 unfold VI at hg
 split at hg <;> cases hg
 rename_i h c x y s V S l Z
 have o1:=(aG ho).1
 rw[← hU] at o1
 clear ho
 have f:=abQ A hA U hU O hO W hW C hC B hB V S l h c Z x y s
 cbv
 repeat' with_reducible first | (intro hb;cbv) | refine UM ?_ ?_
 ·exact o1
 ·exact f.g1
 ·exact f.g2
 ·exact hk _ _ (bW.pure rfl rfl fun ρ=>dB (by rw[← hW];exact f.v))
end Go.Eng
