
import Derived.Test.YtbfknjpggfkgjaaGreatYCNB
import Derived.Test.YtbfknjpggfkgjaaGreatYSpecMA
import Derived.Test.YtbfknjpggfkgjaaGreatEngZA
set_option linter.all false
set_option exponentiation.threshold 40000
set_option maxRecDepth 100000
namespace Go.Eng
open Go.Proofs
structure SX where
 tlen:List Int→Int
 rng:List Int→Bool
 wOK:List Int→Bool
 wV:Bool→List Int→Wd
def bR:SX where
 tlen l:=((Eng.tlen l:Nat):Int)
 rng:=Eng.rng
 wOK l:=decide (Eng.tlen l≤32)
 wV b l:=if Eng.tlen l≤32 then tld b (bX (iU l)) else⟨false,Dg.zero⟩
def JR (A:Alg) (X:SX):List CV→List Blk→Option LR
 | [.s (.hs 0)],[.vec false (.int .u32) l]=>some ⟨[A.cmp .lss (A.len l) 1000000], .c (.s (.hw 0 1 0 (X.tlen l))),[]⟩
 | _,_=>none
theorem KV:aJ Tryz.prog 101 (aC [.s (.int .u32)] aA (JR aA bR)):=by
 refine aH (un:=⟨false,none⟩) tok nF aL (fn:=Tryz.f101) ?_
 intro w Wr args bs r hg ho hWr A L k hA hL hk
 obtain⟨X,hX⟩:=exE bR
 try rw[← hX]
 try rw[← hA]
 unfold JR at hg
 split at hg <;> cases hg
 rename_i l
 change List Int at l
 have hlen:(l.length:Int) < 1000000:=of_decide_eq_true (ho _ (by simp[aA,aP]))
 cbv
 refine hL _ _ _ (aQ (un:=⟨false,none⟩) tok nF aL (fun n:Int=>⟨[(3,⟨[], .c (.s (.int .i64 n))⟩),(2,⟨[], .c (.s .nils)⟩),(0,⟨[], .c (.s (.hs 0))⟩)],[(0, .vec false (.int .u32) l)],1⟩)
  (fun n=>0≤n∧n≤l.length∧ ∀ i,n.toNat≤i→i < l.length→l.getD i 0=0) (fun n=>n.toNat) (A.len l) ?_ ?_ (fun _ i hi=>hWr i hi) ?_)
 ·rw[hA]
  refine⟨?_,?_,fun i h1 h2=>?_⟩
  ·show 0≤(l.length:Int);omega
  ·show(l.length:Int)≤l.length;omega
  ·have h1:((l.length:Int)).toNat≤i:=h1
   omega
 ·exact⟨⟨⟨rfl,rfl,fun _=>rfl⟩,⟨rfl,rfl,fun _=>rfl⟩,⟨rfl,rfl,fun _=>rfl⟩,trivial⟩,⟨⟨rfl,rfl,rfl,rfl,fun h=>h⟩,trivial⟩,rfl,rfl⟩
 intro n hI A2 L2 k2 hA2 hL2 hnext hexit hret
 obtain⟨h0,h1,h2⟩:=hI
 cbv
 repeat' with_reducible first | (intro hb;cbv) | refine UM ?_ ?_
 ·(try clear hk);(try clear hL);(try clear hexit hnext hret);(try clear hexit2 hnext2 hret2);(try clear hL2);(try clear hL3);(try clear hexit3 hnext3 hret3);(try subst hA3);(try subst hA2);(try subst hA);(try simp only[vH] at *);(try simp only[zn] at *);(try simp only[aA,aP,aD,Bool.if_false_right,Bool.if_true_left,Bool.decide_eq_true,Bool.and_eq_false_iff,Bool.or_eq_false_iff,IntKind.wrap_i64,IntKind.wrap_u32,IntKind.wrap_u8,cX,Int.zero_add,Int.sub_zero,bM,beq_true,Bool.or_eq_true,Bool.and_eq_true,Bool.not_eq_true',decide_eq_true_eq,decide_eq_false_iff_not,beq_iff_eq,bne_iff_ne,beq_eq_false_iff_ne,ne_eq,if_true,if_false] at *);omega
 ·(try clear hk);(try clear hL);(try clear hexit hnext hret);(try clear hexit2 hnext2 hret2);(try clear hL2);(try clear hL3);(try clear hexit3 hnext3 hret3);(try subst hA3);(try subst hA2);(try subst hA);(try simp only[vH] at *);(try simp only[zn] at *);(try simp only[aA,aP,aD,Bool.if_false_right,Bool.if_true_left,Bool.decide_eq_true,Bool.and_eq_false_iff,Bool.or_eq_false_iff,IntKind.wrap_i64,IntKind.wrap_u32,IntKind.wrap_u8,cX,Int.zero_add,Int.sub_zero,bM,beq_true,Bool.or_eq_true,Bool.and_eq_true,Bool.not_eq_true',decide_eq_true_eq,decide_eq_false_iff_not,beq_iff_eq,bne_iff_ne,beq_eq_false_iff_ne,ne_eq,if_true,if_false] at *);omega
 ·(try clear hk);(try clear hL);(try clear hexit hnext hret);(try clear hexit2 hnext2 hret2);(try clear hL2);(try clear hL3);(try clear hexit3 hnext3 hret3);(try subst hA3);(try subst hA2);(try subst hA);(try simp only[vH] at *);(try simp only[zn] at *);(try simp only[aA,aP,aD,Bool.if_false_right,Bool.if_true_left,Bool.decide_eq_true,Bool.and_eq_false_iff,Bool.or_eq_false_iff,IntKind.wrap_i64,IntKind.wrap_u32,IntKind.wrap_u8,cX,Int.zero_add,Int.sub_zero,bM,beq_true,Bool.or_eq_true,Bool.and_eq_true,Bool.not_eq_true',decide_eq_true_eq,decide_eq_false_iff_not,beq_iff_eq,bne_iff_ne,beq_eq_false_iff_ne,ne_eq,if_true,if_false] at *);omega
 ·(try clear hk);(try clear hL);(try clear hexit hnext hret);(try clear hexit2 hnext2 hret2);(try clear hL2);(try clear hL3);(try clear hexit3 hnext3 hret3);(try subst hA3);(try subst hA2);(try subst hA);(try simp only[vH] at *);(try simp only[zn] at *);(try simp only[aA,aP,aD,Bool.if_false_right,Bool.if_true_left,Bool.decide_eq_true,Bool.and_eq_false_iff,Bool.or_eq_false_iff,IntKind.wrap_i64,IntKind.wrap_u32,IntKind.wrap_u8,cX,Int.zero_add,Int.sub_zero,bM,beq_true,Bool.or_eq_true,Bool.and_eq_true,Bool.not_eq_true',decide_eq_true_eq,decide_eq_false_iff_not,beq_iff_eq,bne_iff_ne,beq_eq_false_iff_ne,ne_eq,if_true,if_false] at *);omega
 ·have hs:A2.bin .sub .i64 n 1=n - 1:=by(try clear hk);(try clear hL);(try clear hexit hnext hret);(try clear hexit2 hnext2 hret2);(try clear hL2);(try clear hL3);(try clear hexit3 hnext3 hret3);(try subst hA3);(try subst hA2);(try subst hA);(try simp only[vH] at *);(try simp only[zn] at *);(try simp only[aA,aP,aD,Bool.if_false_right,Bool.if_true_left,Bool.decide_eq_true,Bool.and_eq_false_iff,Bool.or_eq_false_iff,IntKind.wrap_i64,IntKind.wrap_u32,IntKind.wrap_u8,cX,Int.zero_add,Int.sub_zero,bM,beq_true,Bool.or_eq_true,Bool.and_eq_true,Bool.not_eq_true',decide_eq_true_eq,decide_eq_false_iff_not,beq_iff_eq,bne_iff_ne,beq_eq_false_iff_ne,ne_eq,if_true,if_false] at *);omega
  simp only[hs] at hb ⊢
  rw[hA2] at hb
  have hb:(if decide (n > 0)=true then(l.getD (n - 1).toNat 0 == 0) else false)=true:=hb
  split at hb
  ·rename_i hn
   simp only[decide_eq_true_eq,beq_iff_eq] at hn hb
   refine hnext _ (n - 1) ?_ ?_ ?_
   ·clear hexit hnext hret hL hL2 hk
    (try simp only[vH] at *);(try simp only[zn] at *)
    refine⟨by omega,by omega,fun i h3 h4=>?_⟩
    by_cases hi:i=(n - 1).toNat
    ·rw[hi];exact hb
    ·exact h2 i (by omega) h4
   ·show(n - 1).toNat < n.toNat;omega
   ·exact⟨⟨⟨rfl,rfl,fun _=>rfl⟩,⟨rfl,rfl,fun _=>rfl⟩,⟨rfl,rfl,fun _=>rfl⟩,trivial⟩,⟨⟨rfl,rfl,rfl,rfl,fun h=>h⟩,trivial⟩,rfl,rfl⟩
  ·cases hb
 ·have hs:A2.bin .sub .i64 n 1=n - 1:=by(try clear hk);(try clear hL);(try clear hexit hnext hret);(try clear hexit2 hnext2 hret2);(try clear hL2);(try clear hL3);(try clear hexit3 hnext3 hret3);(try subst hA3);(try subst hA2);(try subst hA);(try simp only[vH] at *);(try simp only[zn] at *);(try simp only[aA,aP,aD,Bool.if_false_right,Bool.if_true_left,Bool.decide_eq_true,Bool.and_eq_false_iff,Bool.or_eq_false_iff,IntKind.wrap_i64,IntKind.wrap_u32,IntKind.wrap_u8,cX,Int.zero_add,Int.sub_zero,bM,beq_true,Bool.or_eq_true,Bool.and_eq_true,Bool.not_eq_true',decide_eq_true_eq,decide_eq_false_iff_not,beq_iff_eq,bne_iff_ne,beq_eq_false_iff_ne,ne_eq,if_true,if_false] at *);omega
  simp only[hs] at hb
  rw[hA2] at hb
  have hb:(if decide (n > 0)=true then(l.getD (n - 1).toNat 0 == 0) else false)=false:=hb
  apply hexit
  cbv
  repeat' with_reducible first | (intro hb;cbv) | refine UM ?_ ?_
  ·(try clear hk);(try clear hL);(try clear hexit hnext hret);(try clear hexit2 hnext2 hret2);(try clear hL2);(try clear hL3);(try clear hexit3 hnext3 hret3);(try subst hA3);(try subst hA2);(try subst hA);(try simp only[vH] at *);(try simp only[zn] at *);(try simp only[aA,aP,aD,Bool.if_false_right,Bool.if_true_left,Bool.decide_eq_true,Bool.and_eq_false_iff,Bool.or_eq_false_iff,IntKind.wrap_i64,IntKind.wrap_u32,IntKind.wrap_u8,cX,Int.zero_add,Int.sub_zero,bM,beq_true,Bool.or_eq_true,Bool.and_eq_true,Bool.not_eq_true',decide_eq_true_eq,decide_eq_false_iff_not,beq_iff_eq,bne_iff_ne,beq_eq_false_iff_ne,ne_eq,if_true,if_false] at *);omega
  ·(try clear hk);(try clear hL);(try clear hexit hnext hret);(try clear hexit2 hnext2 hret2);(try clear hL2);(try clear hL3);(try clear hexit3 hnext3 hret3);(try subst hA3);(try subst hA2);(try subst hA);(try simp only[vH] at *);(try simp only[zn] at *);(try simp only[aA,aP,aD,Bool.if_false_right,Bool.if_true_left,Bool.decide_eq_true,Bool.and_eq_false_iff,Bool.or_eq_false_iff,IntKind.wrap_i64,IntKind.wrap_u32,IntKind.wrap_u8,cX,Int.zero_add,Int.sub_zero,bM,beq_true,Bool.or_eq_true,Bool.and_eq_true,Bool.not_eq_true',decide_eq_true_eq,decide_eq_false_iff_not,beq_iff_eq,bne_iff_ne,beq_eq_false_iff_ne,ne_eq,if_true,if_false] at *);omega
  ·(try clear hk);(try clear hL);(try clear hexit hnext hret);(try clear hexit2 hnext2 hret2);(try clear hL2);(try clear hL3);(try clear hexit3 hnext3 hret3);(try subst hA3);(try subst hA2);(try subst hA);(try simp only[vH] at *);(try simp only[zn] at *);(try simp only[aA,aP,aD,Bool.if_false_right,Bool.if_true_left,Bool.decide_eq_true,Bool.and_eq_false_iff,Bool.or_eq_false_iff,IntKind.wrap_i64,IntKind.wrap_u32,IntKind.wrap_u8,cX,Int.zero_add,Int.sub_zero,bM,beq_true,Bool.or_eq_true,Bool.and_eq_true,Bool.not_eq_true',decide_eq_true_eq,decide_eq_false_iff_not,beq_iff_eq,bne_iff_ne,beq_eq_false_iff_ne,ne_eq,if_true,if_false] at *);omega
  ·refine hk _ _ (bE.pure rfl fun ρ=>?_)
   clear hexit hnext hret hL hL2 hk
   subst hX
   have:n=((tlen l:Nat):Int):=by
    (try simp only[vH] at *);(try simp only[zn] at *)
    rw[yW l n.toNat (by omega) h2]
    ·omega
    ·split at hb
     ·rename_i hn
      simp only[decide_eq_true_eq,beq_eq_false_iff_ne,ne_eq] at hn hb
      right;rw[show n.toNat - 1=(n - 1).toNat from by omega];exact hb
     ·rename_i hn
      simp only[decide_eq_true_eq] at hn
      left;omega
   show(Sc.hw 0 1 0 n).den ρ=(Sc.hw 0 1 0 ((tlen l:Nat):Int)).den ρ
   rw[← this]
def tM1 (A:Alg) (S:SW) (V:SV) (X:SX):List (Nat×bU):=(101,aC [.s (.int .u32)] A (JR A X)) :: ((R9 A S V))
theorem Lz:COK Tryz.prog (aN (tM1 aA aV aS bR)):=aB KV (OQ)
def JS (A:Alg) (X:SX):List CV→List Blk→Option LR
 | [.s (.bool b), .s (.hs 0)],[.vec false (.int .u32) l]=>some ⟨[A.cmp .lss (A.len l) 1000000,X.rng l], .t [.g [.W (X.wV b l)], .s (.bool (X.wOK l))],[]⟩
 | _,_=>none
theorem ED (b:Bool) (l:List Int) (h:tlen l≠0) (hr:inR l) (h32:tlen l≤32):tld b (bX (iU l))=⟨b,bX (iU l)⟩:=by
 have h1:=Dv hr h
 have h2:=Nat.two_pow_pos (32*(tlen l - 1))
 have h3:iU l < 2 ^ 1024:=v7 (iH hr) (by omega)
 have e:(bX (iU l)).n=iU l:=Nat.mod_eq_of_lt h3
 unfold tld
 rw[e,decide_eq_true (show iU l≠0 by omega),Bool.and_true]
theorem K2:aJ Tryz.prog 91 (aC [.v, .s (.int .u32)] aA (JS aA bR)):=by
 refine aH (un:=⟨false,none⟩) tok Lz aL (fn:=Tryz.f91) ?_
 intro w Wr args bs r hg ho hWr A L k hA hL hk
 obtain⟨S,hS⟩:=exE aV
 obtain⟨V,hV⟩:=exE aS
 obtain⟨X,hX⟩:=exE bR
 try rw[← hS]
 try rw[← hV]
 try rw[← hX]
 try rw[← hA]
 unfold JS at hg
 split at hg <;> cases hg
 rename_i b l
 change List Int at l
 have hlen:(l.length:Int) < 1000000:=of_decide_eq_true (ho _ (by simp[aA,aP]))
 have hr:inR l:=Ed.1 (ho _ (by simp[bR]))
 have ht:=iS l
 have hT0:(0:Int)≤((tlen l:Nat):Int):=by omega
 cbv
 repeat' with_reducible first | (intro hb;cbv) | refine UM ?_ ?_
 ·(try clear hk);(try clear hL);(try clear hexit hnext hret);(try clear hexit2 hnext2 hret2);(try clear hL2);(try clear hL3);(try clear hexit3 hnext3 hret3);(try subst hA3);(try subst hA2);(try subst hA);(try simp only[vH] at *);(try simp only[zn] at *);(try simp only[aA,aP,aD,Bool.if_false_right,Bool.if_true_left,Bool.decide_eq_true,Bool.and_eq_false_iff,Bool.or_eq_false_iff,IntKind.wrap_i64,IntKind.wrap_u32,IntKind.wrap_u8,cX,Int.zero_add,Int.sub_zero,bM,beq_true,Bool.or_eq_true,Bool.and_eq_true,Bool.not_eq_true',decide_eq_true_eq,decide_eq_false_iff_not,beq_iff_eq,bne_iff_ne,beq_eq_false_iff_ne,ne_eq,if_true,if_false] at *);omega
 ·(try clear hk);(try clear hL);(try clear hexit hnext hret);(try clear hexit2 hnext2 hret2);(try clear hL2);(try clear hL3);(try clear hexit3 hnext3 hret3);(try subst hA3);(try subst hA2);(try subst hA);(try simp only[vH] at *);(try simp only[zn] at *);(try simp only[aA,aP,aD,Bool.if_false_right,Bool.if_true_left,Bool.decide_eq_true,Bool.and_eq_false_iff,Bool.or_eq_false_iff,IntKind.wrap_i64,IntKind.wrap_u32,IntKind.wrap_u8,cX,Int.zero_add,Int.sub_zero,bM,beq_true,Bool.or_eq_true,Bool.and_eq_true,Bool.not_eq_true',decide_eq_true_eq,decide_eq_false_iff_not,beq_iff_eq,bne_iff_ne,beq_eq_false_iff_ne,ne_eq,if_true,if_false] at *);omega
 ·subst hX;(try clear hk);(try clear hL);(try clear hexit hnext hret);(try clear hexit2 hnext2 hret2);(try clear hL2);(try clear hL3);(try clear hexit3 hnext3 hret3);subst hA;exact decide_eq_true hT0
 ·have hb:decide (((tlen l:Nat):Int) - 0 > 32)=true:=by rw[hA,hX] at hb;exact hb
  simp only[decide_eq_true_eq] at hb
  refine hk _ _ (bE.pure rfl fun ρ=>?_)
  show Value.tuple #[.agg (aI ρ [.W ⟨false,Dg.zero⟩]).toArray, .bool false]= .tuple #[.agg (aI ρ [.W (bR.wV b l)]).toArray, .bool (bR.wOK l)]
  have e1:bR.wV b l=⟨false,Dg.zero⟩:=if_neg (by omega)
  have e2:bR.wOK l=false:=decide_eq_false (by omega)
  rw[e1,e2]
 ·subst hX;(try clear hk);(try clear hL);(try clear hexit hnext hret);(try clear hexit2 hnext2 hret2);(try clear hL2);(try clear hL3);(try clear hexit3 hnext3 hret3);subst hA;cases b <;> rfl
 ·subst hX;(try clear hk);(try clear hL);(try clear hexit hnext hret);(try clear hexit2 hnext2 hret2);(try clear hL2);(try clear hL3);(try clear hexit3 hnext3 hret3);subst hA;cases b
  ·rfl
  ·exact decide_eq_true hT0
 ·have hb:decide (((tlen l:Nat):Int) - 0 > 32)=false:=by rw[hA,hX] at hb;exact hb
  simp only[decide_eq_false_iff_not] at hb
  have h32:tlen l≤32:=by omega
  have hlt:=v7 (iH hr) (show 32*tlen l≤1024 by omega)
  obtain⟨D,hD⟩: ∃ D:Int→Dg, ∀ i,D i=bX (iU (l.take i.toNat)):=⟨_,fun _=>rfl⟩
  obtain⟨T,hT⟩: ∃ T:Int,T=((tlen l:Nat):Int):=⟨_,rfl⟩
  obtain⟨c,hc⟩: ∃ c:Bool,c=(b&&decide (tlen l≠0)):=⟨_,rfl⟩
  refine hL _ _ _ (aQ (un:=⟨false,none⟩) tok Lz aL (fun i:Int=>⟨[(8,⟨[], .c (.s (.int .i64 i))⟩),(6,⟨[], .c (.s (.hw 0 1 0 T))⟩),(7,⟨[], .c (.s (.hp 2 0))⟩),(4,⟨[], .c (.s (.hp 1 0))⟩)],[(0, .vec false (.int .u32) l),(1, .fix true [.W ⟨false,Dg.zero⟩]),(2, .fix true [.W ⟨c,D i⟩])],3⟩)
   (fun i=>0≤i∧i≤T) (fun i=>(T - i).toNat) 0 ?_ ?_ (fun _ i hi=>by have:=hWr i hi;simp only[List.length_cons,List.length_nil] at this;show i < 3;omega) ?_)
  ·exact⟨by omega,by omega⟩
  ·have e1:(A.ite b (A.cmp .gtr (A.isub (X.tlen l) 0) 0) false)=c:=by
    rw[hA,hX,hc]
    show(if b=true then decide (((tlen l:Nat):Int) - 0 > 0) else false)=_
    cases b
    ·rfl
    ·simp only[if_true,Bool.true_and,decide_eq_decide];omega
   have e2:D 0=Dg.zero:=by rw[hD];show bX (iU (l.take 0))=_;rw[List.take_zero];rfl
   have e3:X.tlen l=T:=by rw[hX,hT];rfl
   refine⟨⟨⟨rfl,rfl,fun _=>rfl⟩,⟨rfl,rfl,fun ρ=>by rw[← e3]⟩,⟨rfl,rfl,fun _=>rfl⟩,⟨rfl,rfl,fun _=>rfl⟩,trivial⟩,⟨⟨rfl,rfl,rfl,rfl,fun h=>h⟩,⟨rfl,rfl,fun _=>rfl⟩,⟨rfl,rfl,fun ρ=>?_⟩,trivial⟩,rfl,rfl⟩
   show aI ρ [.W ⟨A.ite b (A.cmp .gtr (A.isub (X.tlen l) 0) 0) false,Dg.zero⟩]=_
   rw[e1,e2]
  intro i hI A2 L2 k2 hA2 hL2 hnext hexit hret
  cbv
  repeat' with_reducible first | (intro hb;cbv) | refine UM ?_ ?_
  all_goals obtain⟨i0,i1⟩:=hI
  all_goals have hw:=hr.at i.toNat
  all_goals try ((try clear hk);(try clear hL);(try clear hexit hnext hret);(try clear hexit2 hnext2 hret2);(try clear hL2);(try clear hL3);(try clear hexit3 hnext3 hret3);(try subst hA3);(try subst hA2);(try subst hA);(try simp only[vH] at *);(try simp only[zn] at *);(try simp only[aA,aP,aD,Bool.if_false_right,Bool.if_true_left,Bool.decide_eq_true,Bool.and_eq_false_iff,Bool.or_eq_false_iff,IntKind.wrap_i64,IntKind.wrap_u32,IntKind.wrap_u8,cX,Int.zero_add,Int.sub_zero,bM,beq_true,Bool.or_eq_true,Bool.and_eq_true,Bool.not_eq_true',decide_eq_true_eq,decide_eq_false_iff_not,beq_iff_eq,bne_iff_ne,beq_eq_false_iff_ne,ne_eq,if_true,if_false] at *);omega)
  ·have e4:A2.bin .add .i64 i 1=i+1:=by(try clear hk);(try clear hL);(try clear hexit hnext hret);(try clear hexit2 hnext2 hret2);(try clear hL2);(try clear hL3);(try clear hexit3 hnext3 hret3);(try subst hA3);(try subst hA2);(try subst hA);(try simp only[vH] at *);(try simp only[zn] at *);(try simp only[aA,aP,aD,Bool.if_false_right,Bool.if_true_left,Bool.decide_eq_true,Bool.and_eq_false_iff,Bool.or_eq_false_iff,IntKind.wrap_i64,IntKind.wrap_u32,IntKind.wrap_u8,cX,Int.zero_add,Int.sub_zero,bM,beq_true,Bool.or_eq_true,Bool.and_eq_true,Bool.not_eq_true',decide_eq_true_eq,decide_eq_false_iff_not,beq_iff_eq,bne_iff_ne,beq_eq_false_iff_ne,ne_eq,if_true,if_false] at *);omega
   have e5:A2.setD (D i) i (A2.get l (A2.iadd 0 i) 0)=D (i+1):=by
    (try clear hk);(try clear hL);(try clear hexit hnext hret);(try clear hexit2 hnext2 hret2);(try clear hL2);(try clear hL3);(try clear hexit3 hnext3 hret3)
    simp only[aA,aP,decide_eq_true_eq,hA2] at hb
    rw[hD,hD,hA2]
    (try simp only[vH] at *);(try simp only[zn] at *)
    show(bX (iU (l.take i.toNat))).set i.toNat (l.getD (0+i).toNat 0).toNat=bX (iU (l.take (i+1).toNat))
    have ht:=iS l
    rw[Int.zero_add,show(i+1).toNat=i.toNat+1 from by omega,FV l hr i.toNat (by omega) (by omega)]
   refine hnext _ (i+1) ?_ ?_ ⟨⟨⟨rfl,rfl,fun ρ=>congrArg (Value.int .i64) e4⟩,⟨rfl,rfl,fun _=>rfl⟩,⟨rfl,rfl,fun _=>rfl⟩,⟨rfl,rfl,fun _=>rfl⟩,trivial⟩,⟨⟨rfl,rfl,rfl,rfl,fun h=>h⟩,⟨rfl,rfl,fun _=>rfl⟩,⟨rfl,rfl,fun ρ=>congrArg (fun d=>aI ρ [.W ⟨c,d⟩]) e5⟩,trivial⟩,rfl,rfl⟩
   ·(try clear hk);(try clear hL);(try clear hexit hnext hret);(try clear hexit2 hnext2 hret2);(try clear hL2);(try clear hL3);(try clear hexit3 hnext3 hret3);clear e4 e5;subst hA2;(try simp only[vH] at *);(try simp only[zn] at *);(try simp only[aA,aP,aD,Bool.if_false_right,Bool.if_true_left,Bool.decide_eq_true,Bool.and_eq_false_iff,Bool.or_eq_false_iff,IntKind.wrap_i64,IntKind.wrap_u32,IntKind.wrap_u8,cX,Int.zero_add,Int.sub_zero,bM,beq_true,Bool.or_eq_true,Bool.and_eq_true,Bool.not_eq_true',decide_eq_true_eq,decide_eq_false_iff_not,beq_iff_eq,bne_iff_ne,beq_eq_false_iff_ne,ne_eq,if_true,if_false] at *);omega
   ·simp only[aA,aP,decide_eq_true_eq,hA2] at hb
    show(T - (i+1)).toNat < (T - i).toNat;omega
  ·apply hexit
   have hx:i=T:=by(try clear hk);(try clear hL);(try clear hexit hnext hret);(try clear hexit2 hnext2 hret2);(try clear hL2);(try clear hL3);(try clear hexit3 hnext3 hret3);(try subst hA3);(try subst hA2);(try subst hA);(try simp only[vH] at *);(try simp only[zn] at *);(try simp only[aA,aP,aD,Bool.if_false_right,Bool.if_true_left,Bool.decide_eq_true,Bool.and_eq_false_iff,Bool.or_eq_false_iff,IntKind.wrap_i64,IntKind.wrap_u32,IntKind.wrap_u8,cX,Int.zero_add,Int.sub_zero,bM,beq_true,Bool.or_eq_true,Bool.and_eq_true,Bool.not_eq_true',decide_eq_true_eq,decide_eq_false_iff_not,beq_iff_eq,bne_iff_ne,beq_eq_false_iff_ne,ne_eq,if_true,if_false] at *);omega
   cbv
   repeat' with_reducible first | (intro hb;cbv) | refine UM ?_ ?_
   refine hk _ _ (bE.pure rfl fun ρ=>?_)
   show Value.tuple #[.agg (aI ρ [.W ⟨c,D i⟩]).toArray, .bool true]= .tuple #[.agg (aI ρ [.W (bR.wV b l)]).toArray, .bool (bR.wOK l)]
   have e1:bR.wV b l=⟨c,D i⟩:=by
    show(if tlen l≤32 then tld b (bX (iU l)) else _)=_
    rw[if_pos h32,hc,hD,hx,hT,Int.toNat_natCast,nB]
    by_cases h0:tlen l=0
    ·have:iU l=0:=by have:=iH hr;rw[h0] at this;simpa using this
     rw[this,h0];cases b <;> rfl
    ·rw[ED b l h0 hr h32,decide_eq_true (by exact h0),Bool.and_true]
   have e2:bR.wOK l=true:=decide_eq_true h32
   rw[e1,e2]
def tM2 (A:Alg) (S:SW) (V:SV) (X:SX):List (Nat×bU):=(91,aC [.v, .s (.int .u32)] A (JS A X)) :: ((tM1 A S V X))
theorem OO:COK Tryz.prog (aN (tM2 aA aV aS bR)):=aB K2 (Lz)
theorem AA (t:Int) (h0:0≤t) (h1:t < 18446744073709551616):rng [IntKind.u32.wrap t,IntKind.u32.wrap (aD .shr .u64 t 32)]=true∧
  ∀ b,bR.wV b [IntKind.u32.wrap t,IntKind.u32.wrap (aD .shr .u64 t 32)]=tld b (bX t.toNat):=by
 rw[gK t h0,IntKind.wrap_u32,IntKind.wrap_u32]
 refine⟨?_,fun b=>?_⟩
 ·simp only[rng,List.all_cons,List.all_nil,Bool.and_true,Bool.and_eq_true,decide_eq_true_eq];omega
 ·show(if tlen _≤32 then tld b (bX (iU _)) else _)=_
  rw[if_pos (Nat.le_trans (iS _) (by simp))]
  congr 2
  simp only[iU];omega
theorem Gu:aJ Tryz.prog 55 (aC [.v] aA (Ba aA aV)):=by
 refine aH (un:=⟨false,none⟩) tok OO aL (fn:=Tryz.f55) ?_
 intro w Wr args bs r hg ho hWr A L k hA hL hk
 obtain⟨S,hS⟩:=exE aV
 obtain⟨V,hV⟩:=exE aS
 obtain⟨X,hX⟩:=exE bR
 try rw[← hS]
 try rw[← hV]
 try rw[← hX]
 try rw[← hA]
 unfold Ba at hg
 split at hg <;> cases hg
 rename_i x
 have o1:=ho _ (List.mem_cons_self ..)
 have o2:=ho _ (List.mem_cons_of_mem _ (List.mem_cons_self ..))
 simp only[aA,aP,decide_eq_true_eq] at o1 o2
 cbv
 repeat' with_reducible first | (intro hb;cbv) | refine UM ?_ ?_
 all_goals subst hS hX hA
 all_goals have hb:decide (x < 0)=_:=hb
 all_goals simp only[decide_eq_true_eq,decide_eq_false_iff_not] at hb
 all_goals have hn:x < 0→aD .sub .u64 0 (IntKind.u64.wrap x)= -x:=fun h=>by simp only[aD,cX];omega
 all_goals have hp:0≤x→IntKind.u64.wrap x=x:=fun h=>by rw[cX];omega
 ·simp[aA,aP]
 ·show rng [IntKind.u32.wrap (aD .sub .u64 0 (IntKind.u64.wrap x)),IntKind.u32.wrap (aD .shr .u64 (aD .sub .u64 0 (IntKind.u64.wrap x)) 32)]=true
  rw[hn hb];exact(AA (-x) (by omega) (by omega)).1
 ·refine hk _ _ (bE.pure rfl fun ρ=>?_)
  show Value.agg (aI ρ [.W (bR.wV (decide (x < 0)) [IntKind.u32.wrap (aD .sub .u64 0 (IntKind.u64.wrap x)),IntKind.u32.wrap (aD .shr .u64 (aD .sub .u64 0 (IntKind.u64.wrap x)) 32)])]).toArray= .agg (aI ρ [.W (tld (decide (x < 0)) (bX x.natAbs))]).toArray
  have e:=(AA (-x) (by omega) (by omega)).2 (decide (x < 0))
  rw[show(-x).toNat=x.natAbs from by omega] at e
  rw[hn hb,e]
 ·simp[aA,aP]
 ·show rng [IntKind.u32.wrap (IntKind.u64.wrap x),IntKind.u32.wrap (aD .shr .u64 (IntKind.u64.wrap x) 32)]=true
  rw[hp (by omega)];exact(AA x (by omega) (by omega)).1
 ·refine hk _ _ (bE.pure rfl fun ρ=>?_)
  show Value.agg (aI ρ [.W (bR.wV (decide (x < 0)) [IntKind.u32.wrap (IntKind.u64.wrap x),IntKind.u32.wrap (aD .shr .u64 (IntKind.u64.wrap x) 32)])]).toArray= .agg (aI ρ [.W (tld (decide (x < 0)) (bX x.natAbs))]).toArray
  have e:=(AA x (by omega) (by omega)).2 (decide (x < 0))
  rw[show x.toNat=x.natAbs from by omega] at e
  rw[hp (by omega),e]
def tM3 (A:Alg) (S:SW) (V:SV) (X:SX):List (Nat×bU):=(55,aC [.v] A (Ba A S)) :: ((tM2 A S V X))
theorem Hr:COK Tryz.prog (aN (tM3 aA aV aS bR)):=aB Gu (OO)
theorem Lc {ρ:Rho} {q:Nat} {x:Sc} :(XV.c (.s x)).den ρ=(XV.c (.s (.hs q))).den (nZ q [x] ρ):=(mP (i:=0) rfl).symm
def HQ (M:SM):List CV→List Blk→Option LR
 | [.g [.W w]],[]=>some ⟨[], .c (.s (.hs 0)),[.vec false (.int .u32) (M.of w)]⟩
 | _,_=>none
def MN (d:Dg) (i:Int) (l:List Int):Prop:=0≤i∧i≤32∧l=iM d.n i.toNat
structure Ix (A:Alg) (d:Dg) (i:Int) (l:List Int):Prop where
 o1:A.cmp .leq 0 i=true
 o2:A.cmp .lss i 32=true
 o3:A.cmp .leq (A.iadd (A.len l) (A.len [A.dig d i])) 1000000=true
 nx:MN d (i+1) (A.app l [A.dig d i])
 ad:A.bin .add .i64 i 1=i+1
 ms:(32 - (i+1)).toNat < (32 - i).toNat
theorem F1 {d:Dg} {i:Int} {l:List Int} (hI:MN d i l) (A:Alg) (hA:A=aA) (hb:A.cmp .lss i 32=true):Ix A d i l:=by
 have hb2:=hb
 subst hA
 have hb:i < 32:=of_decide_eq_true hb
 obtain⟨i0,i1,h⟩:=hI
 exact {
  o1:=bJ _ rfl _ _ i0
  o2:=hb2
  o3:=by
   refine bJ _ rfl _ _ ?_
   show(l.length:Int)+((1:Nat):Int)≤1000000
   rw[h,cD];omega
  nx:=by
   refine⟨by omega,by omega,?_⟩
   show l++[((d.dig i.toNat:Nat):Int)]=_
   rw[show(i+1).toNat=i.toNat+1 by omega,vS,h];rfl
  ad:=by show aD .add .i64 i 1=i+1;simp only[aD,IntKind.wrap_i64];omega
  ms:=by omega }
structure MM (A:Alg) (X:SX) (M:SM) (w:Wd) (l:List Int):Prop where
 o1:A.cmp .lss (A.len l) 1000000=true
 t0:0≤X.tlen l
 t1:X.tlen l≤(l.length:Int)
 eq:aA.sub l 0 (X.tlen l)=M.of w
theorem Kc {w:Wd} {i:Int} {l:List Int} (hI:MN w.d i l) (A:Alg) (hA:A=aA) (X:SX) (hX:X=bR) (M:SM) (hM:M=aZ) (hb:A.cmp .lss i 32=false):MM A X M w l:=by
 subst hA hX hM
 have hb: ¬ i < 32:=of_decide_eq_false hb
 obtain⟨i0,i1,h⟩:=hI
 have h32:i.toNat=32:=by omega
 rw[h32] at h
 have hw:W32 l:=by rw[h];exact jK _ _
 have hl:l.length=32:=by rw[h,cD]
 have hv:aM l=w.d.n:=by rw[h];exact gX _ _ w.d.lt
 have ht:=iS l
 exact {
  o1:=bH _ rfl _ _ (by show(l.length:Int) < 1000000;omega)
  t0:=Int.natCast_nonneg _
  t1:=by show((tlen l:Nat):Int)≤_;omega
  eq:=As hw hv }
theorem sZ:aJ Tryz.prog 61 (bV [.v] aA (HQ aZ)):=by
 refine dM (un:=⟨false,some [1,2,3,4,6]⟩) tok Hr aL (fn:=Tryz.f61) ?_
 intro w Wr args bs r hg ho hWr A L k hA hL hk
 obtain⟨M,hM⟩:=exE aZ
 obtain⟨S,hS⟩:=exE aV
 obtain⟨V,hV⟩:=exE aS
 obtain⟨X,hX⟩:=exE bR
 try rw[← hM]
 try rw[← hS]
 try rw[← hV]
 try rw[← hX]
 try rw[← hA]
 unfold HQ at hg
 split at hg <;> cases hg
 rename_i w
 have i0:MN w.d 0 []:=⟨Int.le_refl 0,by decide,rfl⟩
 cbv
 refine hL _ _ _ (gM (un:=⟨false,some [1,2,3,4,6]⟩) tok Hr aL 0 (fun i hi=>by have:=hWr i hi;simp at this) (fun p:Int×List Int=>⟨[(4,⟨[], .c (.s (.int .i64 p.1))⟩),(3,⟨[], .c (.s (.hs 1))⟩),(1,⟨[], .c (.s (.hp 0 0))⟩)],[(0, .fix true [.W w]),(1, .vec true (.int .u32) p.2)],2⟩)
  (fun p=>MN w.d p.1 p.2) (fun p=>(32 - p.1).toNat) (0,[]) i0 [(1, .nils)] ?_ (fun _=>Nat.zero_le _) ?_)
 ·exact⟨⟨⟨rfl,rfl,fun _=>rfl⟩,⟨rfl,rfl,fun _=>rfl⟩,⟨rfl,rfl,fun _=>rfl⟩,trivial⟩,⟨⟨rfl,rfl,fun _=>rfl⟩,rfl,trivial⟩,rfl,rfl,rfl,rfl⟩
 clear i0
 rintro⟨i,l⟩ hI A2 L2 k2 hA2 hL2 hnext hexit hret
 have st:=fun hb:A2.cmp .lss i 32=true=>F1 hI A2 hA2 hb
 have en:=fun hb:A2.cmp .lss i 32=false=>Kc hI A2 hA2 X hX M hM hb
 clear hI
 rw[← hA2, ← hS, ← hV, ← hX]
 cbv
 repeat' with_reducible first | (intro hb;cbv) | refine UM ?_ ?_
 all_goals first | exact(st hb).o1 | exact(st hb).o2 | exact(st hb).o3 | skip
 ·refine hnext _ (i+1,_) [(1, .hs 3)] (st hb).nx (st hb).ms ?_
  have ead:=(st hb).ad
  exact⟨⟨⟨rfl,rfl,leI ead⟩,⟨rfl,rfl,fun _=>rfl⟩,⟨rfl,rfl,fun _=>rfl⟩,trivial⟩,⟨⟨rfl,rfl,fun _=>rfl⟩,⟨rfl,rfl,rfl,rfl,fun h=>h⟩,trivial⟩,rfl,rfl,rfl,rfl⟩
 ·apply hexit
  have em:=en hb
  have eA:A2=A:=hA2.trans hA.symm
  clear hexit hnext hret st en hb
  rw[eA] at em
  cbv
  repeat' with_reducible first | (intro hb;cbv) | refine UM ?_ ?_
  all_goals first | exact em.o1 | skip
  subst hM
  exact hk _ _ (iV.one _ _ rfl (fun ρ=>Lc) (fO.hw rfl rfl (Int.le_refl 0) em.t0 em.t1 em.eq))
def tM4 (A:Alg) (S:SW) (V:SV) (X:SX) (M:SM):List (Nat×bU):=(61,bV [.v] A (HQ M)) :: ((tM3 A S V X))
theorem LA:COK Tryz.prog (aN (tM4 aA aV aS bR aZ)):=aB sZ (Hr)
theorem i4 {l:List Int} {i:Nat} (h:i < l.length):aM (l.take (i+1))=aM (l.take i)+2 ^ (32*i)*(l.getD i 0).toNat:=by
 rw[List.take_succ_eq_append_getElem h,kS,List.length_take,Nat.min_eq_left (by omega)]
 simp[List.getD_eq_getElem?_getD,List.getElem?_eq_getElem h]
theorem Dw {l m:List Int} (hl:W32 l) (hm:W32 m) (hlen:l.length=m.length) {i:Nat} (hi:i < l.length) (hd:l.drop (i+1)=m.drop (i+1)) (h:l.getD i 0 < m.getD i 0):aM l < aM m:=by
 have e1:=lJ l (i+1)
 have e2:=lJ m (i+1)
 rw[List.length_take,Nat.min_eq_left (by omega)] at e1 e2
 rw[i4 hi] at e1
 rw[i4 (by omega:i < m.length), ← hd] at e2
 have h1:=dU (hl.take i)
 rw[List.length_take,Nat.min_eq_left (by omega)] at h1
 have h2:=(hl.getD i).1
 have h3:2 ^ (32*i)*((l.getD i 0).toNat+1)≤2 ^ (32*i)*(m.getD i 0).toNat:=Nat.mul_le_mul_left _ (by omega)
 rw[Nat.mul_add] at h3
 rw[e1,e2]
 omega
theorem Mag.lt_len {l m:List Int} (hl:Mag l) (hm:Mag m) (h:l.length < m.length):aM l < aM m:=by
 rcases Nat.lt_or_ge (aM l) (aM m) with h1 | h1
 ·exact h1
 ·exfalso
  have h2:aM m < 2 ^ (32*l.length):=Nat.lt_of_le_of_lt h1 (dU hl.w)
  have:=kH h2
  rw[← hm.len] at this
  omega
def FE (A:Alg) (M:SM):List CV→List Blk→Option LR
 | [.s (.hs 0), .s (.hs 1)],[.vec false (.int .u32) l, .vec false (.int .u32) m]=>some ⟨[M.ok l,M.ok m], .c (.s (.int .i64 (M.cmp l m))),[]⟩
 | _,_=>none
def McI (l m:List Int) (i:Int):Prop:= -1≤i∧i < l.length∧l.length=m.length∧l.drop (i+1).toNat=m.drop (i+1).toNat
structure MH (A:Alg) (M:SM) (l m:List Int) (i:Int):Prop where
 o1:A.cmp .lss i (A.len l)=true
 o2:A.cmp .leq 0 i=true
 o3:A.cmp .lss i (A.len m)=true
 lt:A.cmp .lss (A.get l i 0) (A.get m i 0)=true→ -1=M.cmp l m
 gt:A.cmp .gtr (A.get l i 0) (A.get m i 0)=true→1=M.cmp l m
 nx:A.cmp .lss (A.get l i 0) (A.get m i 0)=false→A.cmp .gtr (A.get l i 0) (A.get m i 0)=false→McI l m (i - 1)
 ad:A.bin .sub .i64 i 1=i - 1
 ms:(i - 1+1).toNat < (i+1).toNat
theorem auC {l m:List Int} (hl:Mag l) (hm:Mag m) {i:Int} (hI:McI l m i) (A:Alg) (hA:A=aA) (M:SM) (hM:M=aZ) (hb:A.cmp .geq i 0=true):MH A M l m i:=by
 subst hA hM
 have hb:i ≥ 0:=of_decide_eq_true hb
 obtain⟨i0,i1,h1,h2⟩:=hI
 have h3:(i+1).toNat=i.toNat+1:=by omega
 rw[h3] at h2
 have hn:=hl.n
 exact {
  o1:=bH _ rfl _ _ i1
  o2:=bJ _ rfl _ _ hb
  o3:=bH _ rfl _ _ (by show i < (m.length:Int);omega)
  lt:=fun h=>by
   have h:l.getD i.toNat 0 < m.getD i.toNat 0:=of_decide_eq_true h
   have:=Dw hl.w hm.w h1 (by omega) h2 h
   show -1=sgn (aM l) (aM m)
   unfold sgn
   rw[if_pos (by omega)]
  gt:=fun h=>by
   have h:l.getD i.toNat 0 > m.getD i.toNat 0:=of_decide_eq_true h
   have:=Dw hm.w hl.w h1.symm (by omega) h2.symm h
   show 1=sgn (aM l) (aM m)
   unfold sgn
   rw[if_neg (by omega),if_pos (by omega)]
  nx:=fun h h'=>by
   have h: ¬ l.getD i.toNat 0 < m.getD i.toNat 0:=of_decide_eq_false h
   have h': ¬ l.getD i.toNat 0 > m.getD i.toNat 0:=of_decide_eq_false h'
   refine⟨by omega,by omega,h1,?_⟩
   have e:(i - 1+1).toNat=i.toNat:=by omega
   rw[e,List.drop_eq_getElem_cons (by omega:i.toNat < l.length),List.drop_eq_getElem_cons (by omega:i.toNat < m.length),h2]
   congr 1
   simp only[List.getD_eq_getElem?_getD,List.getElem?_eq_getElem (by omega:i.toNat < l.length),List.getElem?_eq_getElem (by omega:i.toNat < m.length),Option.getD_some] at h h'
   omega
  ad:=by show aD .sub .i64 i 1=i - 1;simp only[aD,IntKind.wrap_i64];omega
  ms:=by omega }
structure MG (A:Alg) (M:SM) (l m:List Int):Prop where
 lt:A.cmp .neq (A.len l) (A.len m)=true→A.cmp .lss (A.len l) (A.len m)=true→ -1=M.cmp l m
 gt:A.cmp .neq (A.len l) (A.len m)=true→A.cmp .lss (A.len l) (A.len m)=false→1=M.cmp l m
 ini:A.cmp .neq (A.len l) (A.len m)=false→McI l m ((l.length:Int) - 1)
 ad:A.bin .sub .i64 (A.len l) 1=(l.length:Int) - 1
theorem auB {l m:List Int} (hl:Mag l) (hm:Mag m) (A:Alg) (hA:A=aA) (M:SM) (hM:M=aZ):MG A M l m:=by
 subst hA hM
 have hn:=hl.n
 have hne: ∀ b,aA.cmp .neq (aA.len l) (aA.len m)=b→((l.length:Int) != (m.length:Int))=b:=fun b h=>h
 exact {
  lt:=fun _ h=>by
   have h:(l.length:Int) < (m.length:Int):=of_decide_eq_true h
   have:=hl.lt_len hm (by omega)
   show -1=sgn (aM l) (aM m)
   unfold sgn
   rw[if_pos (by omega)]
  gt:=fun h' h=>by
   have h: ¬ (l.length:Int) < (m.length:Int):=of_decide_eq_false h
   have h':=hne _ h'
   simp only[bne_iff_ne,ne_eq] at h'
   have:=hm.lt_len hl (by omega)
   show 1=sgn (aM l) (aM m)
   unfold sgn
   rw[if_neg (by omega),if_pos (by omega)]
  ini:=fun h=>by
   have h:=hne _ h
   simp only[bne_eq_false_iff_eq] at h
   refine⟨by omega,by omega,by omega,?_⟩
   rw[List.drop_eq_nil_of_le (by omega),List.drop_eq_nil_of_le (by omega)]
  ad:=by show aD .sub .i64 (l.length:Int) 1=_;simp only[aD,IntKind.wrap_i64];omega }
theorem No {l m:List Int} {i:Int} (hI:McI l m i) (A:Alg) (hA:A=aA) (M:SM) (hM:M=aZ) (hb:A.cmp .geq i 0=false):0=M.cmp l m:=by
 subst hA hM
 have hb: ¬ i ≥ 0:=of_decide_eq_false hb
 obtain⟨i0,i1,h1,h2⟩:=hI
 have h3:(i+1).toNat=0:=by omega
 rw[h3,List.drop_zero,List.drop_zero] at h2
 subst h2
 show 0=sgn (aM l) (aM l)
 unfold sgn
 rw[if_neg (by omega),if_neg (by omega)]
theorem DJ:aJ Tryz.prog 143 (aC [.s (.int .u32), .s (.int .u32)] aA (FE aA aZ)):=by
 refine aH (un:=⟨false,some [0,1,4,5,10,15,20,31,40]⟩) tok LA aL (fn:=Tryz.f143) ?_
 intro w Wr args bs r hg ho hWr A L k hA hL hk
 obtain⟨M,hM⟩:=exE aZ
 obtain⟨S,hS⟩:=exE aV
 obtain⟨V,hV⟩:=exE aS
 obtain⟨X,hX⟩:=exE bR
 try rw[← hM]
 try rw[← hS]
 try rw[← hV]
 try rw[← hX]
 try rw[← hA]
 unfold FE at hg
 split at hg <;> cases hg
 rename_i l m
 have hl:Mag l:=aX.1 ((aG ho).1)
 have hm:Mag m:=aX.1 ((aG (aG ho).2).1)
 clear ho
 have hd:=auB hl hm A hA M hM
 cbv
 repeat' with_reducible first | (intro hb;cbv) | refine UM ?_ ?_
 ·rename_i hb0
  refine hk _ _ (bE.pure rfl fun ρ=>?_)
  subst hM
  exact Ak (hd.lt hb0 hb)
 ·rename_i hb0
  refine hk _ _ (bE.pure rfl fun ρ=>?_)
  subst hM
  exact Ak (hd.gt hb0 hb)
 ·have i0:=hd.ini hb
  have ead:=hd.ad
  clear hd
  refine hL _ _ _ (aQ (un:=⟨false,some [0,1,4,5,20,31,40]⟩) tok LA aL (fun i:Int=>⟨[(5,⟨[], .c (.s (.int .i64 i))⟩),(0,⟨[], .c (.s (.hs 0))⟩),(1,⟨[], .c (.s (.hs 1))⟩)],[(0, .vec false (.int .u32) l),(1, .vec false (.int .u32) m)],2⟩)
   (fun i=>McI l m i) (fun i=>(i+1).toNat) _ i0 ?_ (fun _ i hi=>by have:=hWr i hi;simp at this;exact this) ?_)
  ·exact⟨⟨⟨rfl,rfl,leI ead⟩,⟨rfl,rfl,fun _=>rfl⟩,⟨rfl,rfl,fun _=>rfl⟩,trivial⟩,⟨aF rfl,aF rfl,trivial⟩,rfl,rfl⟩
  clear i0 ead hb
  intro i hI A2 L2 k2 hA2 hL2 hnext hexit hret
  have st:=fun hb:A2.cmp .geq i 0=true=>auC hl hm hI A2 hA2 M hM hb
  have en:=fun hb:A2.cmp .geq i 0=false=>No hI A2 hA2 M hM hb
  clear hI
  rw[← hA2, ← hS, ← hV, ← hX, ← hM]
  cbv
  repeat' with_reducible first | (intro hb;cbv) | refine UM ?_ ?_
  all_goals first | exact(st (by assumption)).o1 | exact(st (by assumption)).o2 | exact(st (by assumption)).o3 | skip
  ·rename_i hb0
   have:=(st hb0).lt hb
   apply hret
   clear hexit hnext hret st en
   cbv
   refine hk _ _ (bE.pure rfl fun ρ=>?_)
   subst hM
   exact Ak this
  ·rename_i hb0 hb1
   have:=(st hb0).gt hb
   apply hret
   clear hexit hnext hret st en
   cbv
   refine hk _ _ (bE.pure rfl fun ρ=>?_)
   subst hM
   exact Ak this
  ·rename_i hb0 hb1
   refine hnext _ (i - 1) ((st hb0).nx hb1 hb) (st hb0).ms ?_
   have ead:=(st hb0).ad
   exact⟨⟨⟨rfl,rfl,leI ead⟩,⟨rfl,rfl,fun _=>rfl⟩,⟨rfl,rfl,fun _=>rfl⟩,trivial⟩,⟨aF rfl,aF rfl,trivial⟩,rfl,rfl⟩
  ·have:=en hb
   apply hexit
   clear hexit hnext hret st en
   cbv
   refine hk _ _ (bE.pure rfl fun ρ=>?_)
   subst hM
   exact Ak this
def tM5 (A:Alg) (S:SW) (V:SV) (X:SX) (M:SM):List (Nat×bU):=(143,aC [.s (.int .u32), .s (.int .u32)] A (FE A M)) :: ((tM4 A S V X M))
theorem LB:COK Tryz.prog (aN (tM5 aA aV aS bR aZ)):=aB DJ (LA)
def JA (A:Alg) (M:SM):List CV→List Blk→Option LR
 | [.s (.hs 0), .s (.hs 1)],[.vec false (.int .u32) l, .vec false (.int .u32) m]=>some ⟨[M.ok l,M.ok m], .c (.s (.hs 2)),[.vec false (.int .u32) (M.add l m)]⟩
 | _,_=>none
theorem Ht {l:List Int} {i:Nat} (h:l.length≤i):aM (l.take (i+1))=aM (l.take i)+2 ^ (32*i)*(l.getD i 0).toNat:=by
 rw[List.take_of_length_le (by omega),List.take_of_length_le h]
 simp[List.getD_eq_getElem?_getD,List.getElem?_eq_none h]
theorem fY (l:List Int) (i:Nat):aM (l.take (i+1))=aM (l.take i)+2 ^ (32*i)*(l.getD i 0).toNat:=by
 rcases Nat.lt_or_ge i l.length with h | h
 ·exact i4 h
 ·exact Ht h
structure AdI (l m:List Int) (i:Int) (M:List Int) (c:Int):Prop where
 i0:0≤i
 i1:i≤(l.length:Int)+m.length+1
 len:M.length=i.toNat
 w:W32 M
 c0:0≤c
 c1:c≤1
 eq:aM M+2 ^ (32*i.toNat)*c.toNat=aM (l.take i.toNat)+aM (m.take i.toNat)
theorem AdI.init (l m:List Int):AdI l m 0 [] 0:=⟨Int.le_refl 0,by omega,rfl,W32.nil,Int.le_refl 0,by decide,by simp[aM]⟩
structure Mu (A:Alg) (l m:List Int) (i:Int) (M:List Int) (c t:Int):Prop where
 o1:A.cmp .leq 0 i=true
 e11:A.cmp .lss i (A.len l)=true→A.cmp .lss i (A.len m)=true→A.bin .add .u64 (A.bin .add .u64 c (A.wrap .u64 (A.get l i 0))) (A.wrap .u64 (A.get m i 0))=t
 e10:A.cmp .lss i (A.len l)=true→A.cmp .lss i (A.len m)=false→A.bin .add .u64 c (A.wrap .u64 (A.get l i 0))=t
 e01:A.cmp .lss i (A.len l)=false→A.cmp .lss i (A.len m)=true→A.bin .add .u64 c (A.wrap .u64 (A.get m i 0))=t
 e00:A.cmp .lss i (A.len l)=false→A.cmp .lss i (A.len m)=false→c=t
 o3: ∀ x:Int,A.cmp .leq (A.iadd (A.len M) (A.len [x])) 1000000=true
 nx: ∀ c',c'=t→AdI l m (i+1) (A.app M [A.wrap .u32 c']) (A.bin .shr .u64 c' 32)
 ad:A.bin .add .i64 i 1=i+1
 ms:((l.length:Int)+m.length+2 - (i+1)).toNat < ((l.length:Int)+m.length+2 - i).toNat
theorem IB {l m:List Int} (hl:Mag l) (hm:Mag m) {i:Int} {M:List Int} {c:Int} (hI:AdI l m i M c) (A:Alg) (hA:A=aA) (hb:A.ite (A.ite (A.cmp .lss i (A.len l)) true (A.cmp .lss i (A.len m))) true (A.cmp .gtr c 0)=true):Mu A l m i M c (c+l.getD i.toNat 0+m.getD i.toNat 0):=by
 subst hA
 obtain⟨i0,i1,hlen,hw,c0,c1,heq⟩:=hI
 have hb:(if(if decide (i < (l.length:Int))=true then true else decide (i < (m.length:Int)))=true then true else decide (c > 0))=true:=hb
 have gl:=hl.w.getD i.toNat
 have gm:=hm.w.getD i.toNat
 have hln:=hl.n
 have hmn:=hm.n
 have gl0: ¬ i < (l.length:Int)→l.getD i.toNat 0=0:=fun h=>by simp[List.getD_eq_getElem?_getD,List.getElem?_eq_none (show l.length≤i.toNat by omega)]
 have gm0: ¬ i < (m.length:Int)→m.getD i.toNat 0=0:=fun h=>by simp[List.getD_eq_getElem?_getD,List.getElem?_eq_none (show m.length≤i.toNat by omega)]
 have hi:i≤(l.length:Int)+m.length:=by
  by_cases h1:i < (l.length:Int)
  ·omega
  ·by_cases h2:i < (m.length:Int)
   ·omega
   ·simp only[h1,h2,decide_false,Bool.false_eq_true,if_false,decide_eq_true_eq] at hb
    have hc:c=1:=by omega
    rcases Int.lt_or_le ((l.length:Int)+m.length) i with h3 | h3
    ·exfalso
     rw[List.take_of_length_le (by omega),List.take_of_length_le (by omega),hc] at heq
     have h4:=dU hl.w
     have h5:=dU hm.w
     have h6:2 ^ (32*l.length)*2≤2 ^ (32*i.toNat):=by rw[← Nat.pow_succ];exact Nat.pow_le_pow_right (by decide) (by omega)
     have h7:2 ^ (32*m.length)*2≤2 ^ (32*i.toNat):=by rw[← Nat.pow_succ];exact Nat.pow_le_pow_right (by decide) (by omega)
     have h8:2 ^ (32*i.toNat)*(1:Int).toNat=2 ^ (32*i.toNat):=Nat.mul_one _
     omega
    ·exact h3
 have hwr: ∀ v:Int,0≤v→v < 4294967296→IntKind.u64.wrap v=v:=fun v h1 h2=>by rw[cX];omega
 have hadd: ∀ u v:Int,0≤u→u < 9000000000→0≤v→v < 4294967296→aD .add .u64 u v=u+v:=fun u v h1 h2 h3 h4=>by simp only[aD,cX];omega
 exact {
  o1:=bJ _ rfl _ _ i0
  e11:=fun h1 h2=>by
   show aD .add .u64 (aD .add .u64 c (IntKind.u64.wrap (l.getD i.toNat 0))) (IntKind.u64.wrap (m.getD i.toNat 0))=_
   rw[hwr _ gl.1 gl.2,hwr _ gm.1 gm.2,hadd c _ c0 (by omega) gl.1 gl.2,hadd _ _ (by omega) (by omega) gm.1 gm.2]
  e10:=fun h1 h2=>by
   have h2: ¬ i < (m.length:Int):=of_decide_eq_false h2
   show aD .add .u64 c (IntKind.u64.wrap (l.getD i.toNat 0))=_
   rw[hwr _ gl.1 gl.2,hadd c _ c0 (by omega) gl.1 gl.2,gm0 h2,Int.add_zero]
  e01:=fun h1 h2=>by
   have h1: ¬ i < (l.length:Int):=of_decide_eq_false h1
   show aD .add .u64 c (IntKind.u64.wrap (m.getD i.toNat 0))=_
   rw[hwr _ gm.1 gm.2,hadd c _ c0 (by omega) gm.1 gm.2,gl0 h1,Int.add_zero]
  e00:=fun h1 h2=>by
   have h1: ¬ i < (l.length:Int):=of_decide_eq_false h1
   have h2: ¬ i < (m.length:Int):=of_decide_eq_false h2
   rw[gl0 h1,gm0 h2,Int.add_zero,Int.add_zero]
  o3:=fun x=>by
   refine bJ _ rfl _ _ ?_
   show(M.length:Int)+((1:Nat):Int)≤1000000
   omega
  nx:=fun c' hc'=>by
   subst hc'
   have hx: ∃ T:Nat,(T:Int)=c+l.getD i.toNat 0+m.getD i.toNat 0:=⟨(c+l.getD i.toNat 0+m.getD i.toNat 0).toNat,by omega⟩
   obtain⟨T,hT⟩:=hx
   rw[← hT]
   have e1:aA.wrap .u32 (T:Int)=((T % 2 ^ 32:Nat):Int):=by show IntKind.u32.wrap (T:Int)=_;rw[IntKind.wrap_u32];omega
   have e2:aA.bin .shr .u64 (T:Int) 32=((T / 2 ^ 32:Nat):Int):=by show aD .shr .u64 (T:Int) 32=_;rw[gK _ (by omega)];omega
   rw[e1,e2]
   have hin:(i+1).toNat=i.toNat+1:=by omega
   refine⟨by omega,by omega,?_,?_,by omega,by omega,?_⟩
   ·show(M++[((T % 2 ^ 32:Nat):Int)]).length=_
    rw[List.length_append,List.length_singleton,hlen];omega
   ·exact hw.app (W32.cons (by omega) W32.nil)
   ·show aM (M++[((T % 2 ^ 32:Nat):Int)])+_=_
    rw[kS,hin,fY,fY,cV,hlen,Int.toNat_natCast,Int.toNat_natCast]
    have hT2:T=c.toNat+(l.getD i.toNat 0).toNat+(m.getD i.toNat 0).toNat:=by omega
    have hdm:T=T % 2 ^ 32+2 ^ 32*(T / 2 ^ 32):=by omega
    generalize 2 ^ (32*i.toNat)=P at *
    generalize aM (l.take i.toNat)=u at *
    generalize aM (m.take i.toNat)=v at *
    generalize (l.getD i.toNat 0).toNat=x at *
    generalize (m.getD i.toNat 0).toNat=y at *
    have:P*T=P*(T % 2 ^ 32)+P*2 ^ 32*(T / 2 ^ 32):=by
     conv=>lhs;rw[hdm]
     rw[Nat.mul_add,Nat.mul_assoc]
    have h2:P*T=P*c.toNat+P*x+P*y:=by rw[hT2,Nat.mul_add,Nat.mul_add]
    omega
  ad:=by show aD .add .i64 i 1=i+1;simp only[aD,IntKind.wrap_i64];omega
  ms:=by omega }
structure sB (A:Alg) (X:SX) (L:List Int) (Z:List Int):Prop where
 o1:A.cmp .lss (A.len L) 1000000=true
 t0:0≤X.tlen L
 t1:X.tlen L≤(L.length:Int)
 eq:aA.sub L 0 (X.tlen L)=Z
theorem qY {L:List Int} (hw:W32 L) (hn:L.length < 1000000) {n:Nat} (hv:aM L=n) (A:Alg) (hA:A=aA) (X:SX) (hX:X=bR):sB A X L (bS n):=by
 subst hA hX
 have ht:=iS L
 exact {
  o1:=bH _ rfl _ _ (by show(L.length:Int) < 1000000;omega)
  t0:=Int.natCast_nonneg _
  t1:=by show((tlen L:Nat):Int)≤_;omega
  eq:=As hw hv }
theorem MV {l m:List Int} (hl:Mag l) (hm:Mag m) {i:Int} {M:List Int} {c:Int} (hI:AdI l m i M c) (A:Alg) (hA:A=aA) (X:SX) (hX:X=bR) (B:SM) (hB:B=aZ) (hb:A.ite (A.ite (A.cmp .lss i (A.len l)) true (A.cmp .lss i (A.len m))) true (A.cmp .gtr c 0)=false):sB A X M (B.add l m):=by
 subst hB
 obtain⟨i0,i1,hlen,hw,c0,c1,heq⟩:=hI
 have hln:=hl.n
 have hmn:=hm.n
 refine qY hw (by omega) ?_ A hA X hX
 subst hA
 have hb:(if(if decide (i < (l.length:Int))=true then true else decide (i < (m.length:Int)))=true then true else decide (c > 0))=false:=hb
 by_cases h1:i < (l.length:Int)
 ·simp[h1] at hb
 ·by_cases h2:i < (m.length:Int)
  ·simp[h1,h2] at hb
  ·simp only[h1,h2,decide_false,Bool.false_eq_true,if_false,decide_eq_false_iff_not] at hb
   have hc:c=0:=by omega
   rw[List.take_of_length_le (by omega),List.take_of_length_le (by omega),hc] at heq
   simpa using heq
theorem KA:aJ Tryz.prog 142 (bV [.s (.int .u32), .s (.int .u32)] aA (JA aA aZ)):=by
 refine dM (un:=⟨false,some [0,1,4,5,6,7,21,27,38]⟩) tok LB aL (fn:=Tryz.f142) ?_
 intro w Wr args bs r hg ho hWr A L k hA hL hk
 obtain⟨M,hM⟩:=exE aZ
 obtain⟨S,hS⟩:=exE aV
 obtain⟨V,hV⟩:=exE aS
 obtain⟨X,hX⟩:=exE bR
 try rw[← hM]
 try rw[← hS]
 try rw[← hV]
 try rw[← hX]
 try rw[← hA]
 unfold JA at hg
 split at hg <;> cases hg
 rename_i l m
 have hl:Mag l:=aX.1 ((aG ho).1)
 have hm:Mag m:=aX.1 ((aG (aG ho).2).1)
 clear ho
 have i0:=AdI.init l m
 cbv
 refine hL _ _ _ (gM (un:=⟨false,some [0,1,4,5,6,7,21,27,38]⟩) tok LB aL 2 (fun i hi=>by have:=hWr i hi;simp at this;exact this) (fun p:Int×List Int×Int=>⟨[(7,⟨[], .c (.s (.int .i64 p.1))⟩),(6,⟨[], .c (.s (.int .u64 p.2.2))⟩),(5,⟨[], .c (.s (.hs 2))⟩),(0,⟨[], .c (.s (.hs 0))⟩),(1,⟨[], .c (.s (.hs 1))⟩)],[(0, .vec false (.int .u32) l),(1, .vec false (.int .u32) m),(2, .vec true (.int .u32) p.2.1)],3⟩)
  (fun p=>AdI l m p.1 p.2.1 p.2.2) (fun p=>((l.length:Int)+m.length+2 - p.1).toNat) (0,[],0) i0 [(2, .nils)] ?_ (fun _=>Nat.le_of_ble_eq_true rfl) ?_)
 ·exact⟨⟨⟨rfl,rfl,fun _=>rfl⟩,⟨rfl,rfl,fun _=>rfl⟩,⟨rfl,rfl,fun _=>rfl⟩,⟨rfl,rfl,fun _=>rfl⟩,⟨rfl,rfl,fun _=>rfl⟩,trivial⟩,⟨⟨rfl,rfl,rfl,rfl,fun h=>h⟩,⟨rfl,rfl,rfl,rfl,fun h=>h⟩,rfl,trivial⟩,rfl,rfl,rfl,rfl⟩
 clear i0
 rintro⟨i,R,c⟩ hI A2 L2 k2 hA2 hL2 hnext hexit hret
 have st:=fun hb=>IB hl hm hI A2 hA2 hb
 have en:=fun hb=>MV hl hm hI A hA X hX M hM (by rw[hA, ← hA2];exact hb)
 clear hI
 rw[← hA2, ← hS, ← hV, ← hX, ← hM]
 cbv
 repeat' with_reducible first | (intro hb;cbv) | refine UM ?_ ?_
 all_goals first | exact(st (by assumption)).o1 | exact(st (by assumption)).o3 _ | assumption | skip
 ·rename_i hb0 hb1
  refine hnext _ (i+1,_,_) [(2, .hs 4)] ((st hb0).nx _ ((st hb0).e11 hb1 hb)) (st hb0).ms ?_
  have ead:=(st hb0).ad
  exact⟨⟨⟨rfl,rfl,leI ead⟩,⟨rfl,rfl,fun _=>rfl⟩,⟨rfl,rfl,fun _=>rfl⟩,⟨rfl,rfl,fun _=>rfl⟩,⟨rfl,rfl,fun _=>rfl⟩,trivial⟩,⟨⟨rfl,rfl,rfl,rfl,fun h=>h⟩,⟨rfl,rfl,rfl,rfl,fun h=>h⟩,⟨rfl,rfl,rfl,rfl,fun h=>h⟩,trivial⟩,rfl,rfl,rfl,rfl⟩
 ·rename_i hb0 hb1
  refine hnext _ (i+1,_,_) [(2, .hs 4)] ((st hb0).nx _ ((st hb0).e10 hb1 hb)) (st hb0).ms ?_
  have ead:=(st hb0).ad
  exact⟨⟨⟨rfl,rfl,leI ead⟩,⟨rfl,rfl,fun _=>rfl⟩,⟨rfl,rfl,fun _=>rfl⟩,⟨rfl,rfl,fun _=>rfl⟩,⟨rfl,rfl,fun _=>rfl⟩,trivial⟩,⟨⟨rfl,rfl,rfl,rfl,fun h=>h⟩,⟨rfl,rfl,rfl,rfl,fun h=>h⟩,⟨rfl,rfl,rfl,rfl,fun h=>h⟩,trivial⟩,rfl,rfl,rfl,rfl⟩
 ·rename_i hb0 hb1
  refine hnext _ (i+1,_,_) [(2, .hs 4)] ((st hb0).nx _ ((st hb0).e01 hb1 hb)) (st hb0).ms ?_
  have ead:=(st hb0).ad
  exact⟨⟨⟨rfl,rfl,leI ead⟩,⟨rfl,rfl,fun _=>rfl⟩,⟨rfl,rfl,fun _=>rfl⟩,⟨rfl,rfl,fun _=>rfl⟩,⟨rfl,rfl,fun _=>rfl⟩,trivial⟩,⟨⟨rfl,rfl,rfl,rfl,fun h=>h⟩,⟨rfl,rfl,rfl,rfl,fun h=>h⟩,⟨rfl,rfl,rfl,rfl,fun h=>h⟩,trivial⟩,rfl,rfl,rfl,rfl⟩
 ·rename_i hb0 hb1
  refine hnext _ (i+1,_,_) [(2, .hs 4)] ((st hb0).nx _ ((st hb0).e00 hb1 hb)) (st hb0).ms ?_
  have ead:=(st hb0).ad
  exact⟨⟨⟨rfl,rfl,leI ead⟩,⟨rfl,rfl,fun _=>rfl⟩,⟨rfl,rfl,fun _=>rfl⟩,⟨rfl,rfl,fun _=>rfl⟩,⟨rfl,rfl,fun _=>rfl⟩,trivial⟩,⟨⟨rfl,rfl,rfl,rfl,fun h=>h⟩,⟨rfl,rfl,rfl,rfl,fun h=>h⟩,⟨rfl,rfl,rfl,rfl,fun h=>h⟩,trivial⟩,rfl,rfl,rfl,rfl⟩
 ·apply hexit
  have em:=en hb
  clear hexit hnext hret st en hb
  cbv
  repeat' with_reducible first | (intro hb;cbv) | refine UM ?_ ?_
  all_goals first | exact em.o1 | skip
  subst hM
  exact hk _ _ (iV.one _ _ rfl (fun ρ=>Lc) (fO.hw rfl rfl (Int.le_refl 0) em.t0 em.t1 em.eq))
def tM6 (A:Alg) (S:SW) (V:SV) (X:SX) (M:SM):List (Nat×bU):=(142,bV [.s (.int .u32), .s (.int .u32)] A (JA A M)) :: ((tM5 A S V X M))
theorem LC:COK Tryz.prog (aN (tM6 aA aV aS bR aZ)):=aB KA (LB)
def JF (A:Alg) (M:SM):List CV→List Blk→Option LR
 | [.s (.hs 0), .s (.hs 1)],[.vec false (.int .u32) l, .vec false (.int .u32) m]=>some ⟨[M.ok l,M.ok m,M.le m l], .c (.s (.hs 2)),[.vec false (.int .u32) (M.sub l m)]⟩
 | _,_=>none
structure SbI (l m:List Int) (i:Int) (M:List Int) (c:Int):Prop where
 i0:0≤i
 i1:i≤(l.length:Int)
 len:M.length=i.toNat
 w:W32 M
 c0:0≤c
 c1:c≤1
 eq:(aM M:Int)+(aM (m.take i.toNat):Nat)=(aM (l.take i.toNat):Nat)+(2 ^ (32*i.toNat):Nat)*c
theorem SbI.init (l m:List Int):SbI l m 0 [] 0:=⟨Int.le_refl 0,by omega,rfl,W32.nil,Int.le_refl 0,by decide,by simp[aM]⟩
structure MS (A:Alg) (l m:List Int) (i:Int) (M:List Int) (c t:Int):Prop where
 o1:A.cmp .leq 0 i=true
 e1:A.cmp .lss i (A.len m)=true→A.bin .sub .i64 (A.bin .sub .i64 (A.wrap .i64 (A.get l i 0)) c) (A.wrap .i64 (A.get m i 0))=t
 e0:A.cmp .lss i (A.len m)=false→A.bin .sub .i64 (A.wrap .i64 (A.get l i 0)) c=t
 o3: ∀ x:Int,A.cmp .leq (A.iadd (A.len M) (A.len [x])) 1000000=true
 n1: ∀ x,x=t→A.cmp .lss x 0=true→SbI l m (i+1) (A.app M [A.wrap .u32 (A.bin .add .i64 x 4294967296)]) 1
 n0: ∀ x,x=t→A.cmp .lss x 0=false→SbI l m (i+1) (A.app M [A.wrap .u32 x]) 0
 ad:A.bin .add .i64 i 1=i+1
 ms:((l.length:Int) - (i+1)).toNat < ((l.length:Int) - i).toNat
theorem Le {l m:List Int} (hl:Mag l) (hm:Mag m) {i:Int} {M:List Int} {c:Int} (hI:SbI l m i M c) (A:Alg) (hA:A=aA) (hb:A.cmp .lss i (A.len l)=true):MS A l m i M c (l.getD i.toNat 0 - c - m.getD i.toNat 0):=by
 subst hA
 obtain⟨i0,i1,hlen,hw,c0,c1,heq⟩:=hI
 have hb:i < (l.length:Int):=of_decide_eq_true hb
 have gl:=hl.w.getD i.toNat
 have gm:=hm.w.getD i.toNat
 have hln:=hl.n
 have hmn:=hm.n
 have gm0: ¬ i < (m.length:Int)→m.getD i.toNat 0=0:=fun h=>by simp[List.getD_eq_getElem?_getD,List.getElem?_eq_none (show m.length≤i.toNat by omega)]
 have hwr: ∀ v:Int,0≤v→v < 4294967296→IntKind.i64.wrap v=v:=fun v h1 h2=>by rw[IntKind.wrap_i64];omega
 have fE: ∀ u v:Int, -9000000000≤u→u < 9000000000→0≤v→v < 4294967296→aD .sub .i64 u v=u - v:=fun u v h1 h2 h3 h4=>by simp only[aD,IntKind.wrap_i64];omega
 have hin:(i+1).toNat=i.toNat+1:=by omega
 have main: ∀ (y b:Int),0≤y→y < 4294967296→0≤b→b≤1→y=l.getD i.toNat 0 - c - m.getD i.toNat 0+4294967296*b→SbI l m (i+1) (M++[y]) b:=fun y b y0 y1 b0 b1 hy=>by
  refine⟨by omega,by omega,?_,?_,b0,b1,?_⟩
  ·rw[List.length_append,List.length_singleton,hlen];omega
  ·exact hw.app (W32.cons (by omega) W32.nil)
  ·rw[kS,hin,fY,fY,cV,hlen,Int.natCast_add,Int.natCast_add,Int.natCast_add,Int.natCast_mul,Int.natCast_mul,Int.natCast_mul,Int.natCast_mul]
   rw[Int.toNat_of_nonneg y0,Int.toNat_of_nonneg gl.1,Int.toNat_of_nonneg gm.1]
   generalize ((2 ^ (32*i.toNat):Nat):Int)=P at *
   have:P*y=P*l.getD i.toNat 0 - P*c - P*m.getD i.toNat 0+P*(4294967296*b):=by rw[hy,Int.mul_add,Int.mul_sub,Int.mul_sub]
   have h2:((2 ^ 32:Nat):Int)=4294967296:=rfl
   rw[h2,Int.mul_assoc]
   omega
 exact {
  o1:=bJ _ rfl _ _ i0
  e1:=fun h2=>by
   show aD .sub .i64 (aD .sub .i64 (IntKind.i64.wrap (l.getD i.toNat 0)) c) (IntKind.i64.wrap (m.getD i.toNat 0))=_
   rw[hwr _ gl.1 gl.2,hwr _ gm.1 gm.2,fE _ c (by omega) (by omega) c0 (by omega),fE _ _ (by omega) (by omega) gm.1 gm.2]
  e0:=fun h2=>by
   have h2: ¬ i < (m.length:Int):=of_decide_eq_false h2
   show aD .sub .i64 (IntKind.i64.wrap (l.getD i.toNat 0)) c=_
   rw[hwr _ gl.1 gl.2,fE _ c (by omega) (by omega) c0 (by omega),gm0 h2,Int.sub_zero]
  o3:=fun x=>by
   refine bJ _ rfl _ _ ?_
   show(M.length:Int)+((1:Nat):Int)≤1000000
   omega
  n1:=fun x hx h=>by
   have h:x < 0:=of_decide_eq_true h
   have e:aA.wrap .u32 (aA.bin .add .i64 x 4294967296)=x+4294967296:=by
    show IntKind.u32.wrap (aD .add .i64 x 4294967296)=_
    simp only[aD,IntKind.wrap_i64,IntKind.wrap_u32];omega
   rw[e]
   exact main _ 1 (by omega) (by omega) (by omega) (by omega) (by omega)
  n0:=fun x hx h=>by
   have h: ¬ x < 0:=of_decide_eq_false h
   have e:aA.wrap .u32 x=x:=by
    show IntKind.u32.wrap x=_
    rw[IntKind.wrap_u32];omega
   rw[e]
   exact main _ 0 (by omega) (by omega) (by omega) (by omega) (by omega)
  ad:=by show aD .add .i64 i 1=i+1;simp only[aD,IntKind.wrap_i64];omega
  ms:=by omega }
theorem On {l m:List Int} (hl:Mag l) (hm:Mag m) (hle:aM m≤aM l) {i:Int} {M:List Int} {c:Int} (hI:SbI l m i M c) (A:Alg) (hA:A=aA) (X:SX) (hX:X=bR) (B:SM) (hB:B=aZ) (hb:A.cmp .lss i (A.len l)=false):sB A X M (B.sub l m):=by
 subst hB
 obtain⟨i0,i1,hlen,hw,c0,c1,heq⟩:=hI
 have hln:=hl.n
 refine qY hw (by omega) ?_ A hA X hX
 subst hA
 have hb: ¬ i < (l.length:Int):=of_decide_eq_false hb
 have hlm:m.length≤l.length:=by
  rw[hl.len,hm.len]
  exact kH (Nat.lt_of_le_of_lt hle (nA _))
 rw[List.take_of_length_le (by omega),List.take_of_length_le (by omega)] at heq
 have h1:=dU hw
 rw[hlen] at h1
 generalize 2 ^ (32*i.toNat)=P at *
 have:c=0∨c=1:=by omega
 rcases this with rfl | rfl <;> omega
theorem KC:aJ Tryz.prog 144 (bV [.s (.int .u32), .s (.int .u32)] aA (JF aA aZ)):=by
 refine dM (un:=⟨false,some [0,1,4,5,6,7,8,12,25,34]⟩) tok LC aL (fn:=Tryz.f144) ?_
 intro w Wr args bs r hg ho hWr A L k hA hL hk
 obtain⟨M,hM⟩:=exE aZ
 obtain⟨S,hS⟩:=exE aV
 obtain⟨V,hV⟩:=exE aS
 obtain⟨X,hX⟩:=exE bR
 try rw[← hM]
 try rw[← hS]
 try rw[← hV]
 try rw[← hX]
 try rw[← hA]
 unfold JF at hg
 split at hg <;> cases hg
 rename_i l m
 have hl:Mag l:=aX.1 ((aG ho).1)
 have hm:Mag m:=aX.1 ((aG (aG ho).2).1)
 have hle:aM m≤aM l:=of_decide_eq_true ((aG (aG (aG ho).2).2).1)
 clear ho
 have i0:=SbI.init l m
 cbv
 refine hL _ _ _ (gM (un:=⟨false,some [0,1,4,5,6,7,8,12,25,34]⟩) tok LC aL 2 (fun i hi=>by have:=hWr i hi;simp at this;exact this) (fun p:Int×List Int×Int=>⟨[(7,⟨[], .c (.s (.int .i64 p.1))⟩),(6,⟨[], .c (.s (.int .i64 p.2.2))⟩),(5,⟨[], .c (.s (.hs 2))⟩),(0,⟨[], .c (.s (.hs 0))⟩),(1,⟨[], .c (.s (.hs 1))⟩)],[(0, .vec false (.int .u32) l),(1, .vec false (.int .u32) m),(2, .vec true (.int .u32) p.2.1)],3⟩)
  (fun p=>SbI l m p.1 p.2.1 p.2.2) (fun p=>((l.length:Int) - p.1).toNat) (0,[],0) i0 [(2, .nils)] ?_ (fun _=>Nat.le_of_ble_eq_true rfl) ?_)
 ·exact⟨⟨⟨rfl,rfl,fun _=>rfl⟩,⟨rfl,rfl,fun _=>rfl⟩,⟨rfl,rfl,fun _=>rfl⟩,⟨rfl,rfl,fun _=>rfl⟩,⟨rfl,rfl,fun _=>rfl⟩,trivial⟩,⟨⟨rfl,rfl,rfl,rfl,fun h=>h⟩,⟨rfl,rfl,rfl,rfl,fun h=>h⟩,rfl,trivial⟩,rfl,rfl,rfl,rfl⟩
 clear i0
 rintro⟨i,R,c⟩ hI A2 L2 k2 hA2 hL2 hnext hexit hret
 have st:=fun hb=>Le hl hm hI A2 hA2 hb
 have en:=fun hb=>On hl hm hle hI A hA X hX M hM (by rw[hA, ← hA2];exact hb)
 clear hI
 rw[← hA2, ← hS, ← hV, ← hX, ← hM]
 cbv
 repeat' with_reducible first | (intro hb;cbv) | refine UM ?_ ?_
 all_goals first | exact(st (by assumption)).o1 | exact(st (by assumption)).o3 _ | assumption | skip
 ·rename_i hb0 hb1
  refine hnext _ (i+1,_,_) [(2, .hs 4)] ((st hb0).n1 _ ((st hb0).e1 hb1) hb) (st hb0).ms ?_
  have ead:=(st hb0).ad
  exact⟨⟨⟨rfl,rfl,leI ead⟩,⟨rfl,rfl,fun _=>rfl⟩,⟨rfl,rfl,fun _=>rfl⟩,⟨rfl,rfl,fun _=>rfl⟩,⟨rfl,rfl,fun _=>rfl⟩,trivial⟩,⟨⟨rfl,rfl,rfl,rfl,fun h=>h⟩,⟨rfl,rfl,rfl,rfl,fun h=>h⟩,⟨rfl,rfl,rfl,rfl,fun h=>h⟩,trivial⟩,rfl,rfl,rfl,rfl⟩
 ·rename_i hb0 hb1
  refine hnext _ (i+1,_,_) [(2, .hs 4)] ((st hb0).n0 _ ((st hb0).e1 hb1) hb) (st hb0).ms ?_
  have ead:=(st hb0).ad
  exact⟨⟨⟨rfl,rfl,leI ead⟩,⟨rfl,rfl,fun _=>rfl⟩,⟨rfl,rfl,fun _=>rfl⟩,⟨rfl,rfl,fun _=>rfl⟩,⟨rfl,rfl,fun _=>rfl⟩,trivial⟩,⟨⟨rfl,rfl,rfl,rfl,fun h=>h⟩,⟨rfl,rfl,rfl,rfl,fun h=>h⟩,⟨rfl,rfl,rfl,rfl,fun h=>h⟩,trivial⟩,rfl,rfl,rfl,rfl⟩
 ·rename_i hb0 hb1
  refine hnext _ (i+1,_,_) [(2, .hs 4)] ((st hb0).n1 _ ((st hb0).e0 hb1) hb) (st hb0).ms ?_
  have ead:=(st hb0).ad
  exact⟨⟨⟨rfl,rfl,leI ead⟩,⟨rfl,rfl,fun _=>rfl⟩,⟨rfl,rfl,fun _=>rfl⟩,⟨rfl,rfl,fun _=>rfl⟩,⟨rfl,rfl,fun _=>rfl⟩,trivial⟩,⟨⟨rfl,rfl,rfl,rfl,fun h=>h⟩,⟨rfl,rfl,rfl,rfl,fun h=>h⟩,⟨rfl,rfl,rfl,rfl,fun h=>h⟩,trivial⟩,rfl,rfl,rfl,rfl⟩
 ·rename_i hb0 hb1
  refine hnext _ (i+1,_,_) [(2, .hs 4)] ((st hb0).n0 _ ((st hb0).e0 hb1) hb) (st hb0).ms ?_
  have ead:=(st hb0).ad
  exact⟨⟨⟨rfl,rfl,leI ead⟩,⟨rfl,rfl,fun _=>rfl⟩,⟨rfl,rfl,fun _=>rfl⟩,⟨rfl,rfl,fun _=>rfl⟩,⟨rfl,rfl,fun _=>rfl⟩,trivial⟩,⟨⟨rfl,rfl,rfl,rfl,fun h=>h⟩,⟨rfl,rfl,rfl,rfl,fun h=>h⟩,⟨rfl,rfl,rfl,rfl,fun h=>h⟩,trivial⟩,rfl,rfl,rfl,rfl⟩
 ·apply hexit
  have em:=en hb
  clear hexit hnext hret st en hb
  cbv
  repeat' with_reducible first | (intro hb;cbv) | refine UM ?_ ?_
  all_goals first | exact em.o1 | skip
  subst hM
  exact hk _ _ (iV.one _ _ rfl (fun ρ=>Lc) (fO.hw rfl rfl (Int.le_refl 0) em.t0 em.t1 em.eq))
def tM7 (A:Alg) (S:SW) (V:SV) (X:SX) (M:SM):List (Nat×bU):=(144,bV [.s (.int .u32), .s (.int .u32)] A (JF A M)) :: ((tM6 A S V X M))
theorem LD:COK Tryz.prog (aN (tM7 aA aV aS bR aZ)):=aB KC (LC)
def C4 (A:Alg) (M:SM):List CV→List Blk→Option LR
 | [.s (.hs 0)],[.vec false (.int .u32) l]=>some ⟨[M.ok l], .c (.s (.int .i64 (M.bits l))),[]⟩
 | _,_=>none
def BtI (l:List Int) (n x:Int):Prop:=0≤n∧0≤x∧x < 4294967296∧n+bP x.toNat=bP (aM l)∧n≤40000
theorem Bl {x:Nat} (h:x≠0):bP x=bP (x / 2)+1:=by
 obtain⟨h1,h2,h3⟩:=d7 x h
 by_cases h0:x / 2=0
 ·have hx:x=1:=by omega
  subst hx;rfl
 ·obtain⟨g1,g2,g3⟩:=d7 (x / 2) h0
  have a1:2 ^ (bP (x / 2))≤x:=by
   have:2 ^ (bP (x / 2))=2 ^ (bP (x / 2) - 1)*2:=by rw[← Nat.pow_succ];congr 1;omega
   omega
  have a2:x < 2 ^ (bP (x / 2)+1):=by rw[Nat.pow_succ];omega
  have b1:=(Nat.pow_lt_pow_iff_right (a:=2) (by decide)).1 (Nat.lt_of_le_of_lt a1 h3)
  have b2:=(Nat.pow_lt_pow_iff_right (a:=2) (by decide)).1 (Nat.lt_of_le_of_lt h2 a2)
  omega
theorem Dn {l:List Int} (hl:Mag l) (h:l.length≠0):bP (aM l)=32*(l.length - 1)+bP (l.getD (l.length - 1) 0).toNat:=by
 have e:=i4 (l:=l) (i:=l.length - 1) (by omega)
 rw[show l.length - 1+1=l.length by omega,List.take_length] at e
 have h1:=dU (hl.w.take (l.length - 1))
 rw[List.length_take,Nat.min_eq_left (by omega)] at h1
 have ht:=(nL l).2
 rw[hl.t] at ht
 have hw:=hl.w.getD (l.length - 1)
 have hx:(l.getD (l.length - 1) 0).toNat≠0:=by
  rcases ht with h2 | h2
  ·exact absurd h2 h
  ·omega
 generalize (l.getD (l.length - 1) 0).toNat=x at *
 obtain⟨g1,g2,g3⟩:=d7 x hx
 have hv:aM l≠0:=by
  rw[e]
  have:=Nat.two_pow_pos (32*(l.length - 1))
  have:=Nat.mul_pos this (Nat.pos_of_ne_zero hx)
  omega
 obtain⟨f1,f2,f3⟩:=d7 (aM l) hv
 have a1:2 ^ (32*(l.length - 1)+(bP x - 1))≤aM l:=by
  rw[Nat.pow_add,e]
  exact Nat.le_trans (Nat.mul_le_mul_left _ g2) (Nat.le_add_left _ _)
 have a2:aM l < 2 ^ (32*(l.length - 1)+bP x):=by
  rw[Nat.pow_add,e]
  have:2 ^ (32*(l.length - 1))*(x+1)≤2 ^ (32*(l.length - 1))*2 ^ bP x:=Nat.mul_le_mul_left _ g3
  rw[Nat.mul_add] at this
  omega
 have b1:=(Nat.pow_lt_pow_iff_right (a:=2) (by decide)).1 (Nat.lt_of_le_of_lt a1 f3)
 have b2:=(Nat.pow_lt_pow_iff_right (a:=2) (by decide)).1 (Nat.lt_of_le_of_lt f2 a2)
 omega
structure Mz (A:Alg) (M:SM) (l:List Int):Prop where
 z:A.cmp .eql (A.len l) 0=true→0=M.bits l
 o1:A.cmp .eql (A.len l) 0=false→A.cmp .leq 0 (A.bin .sub .i64 (A.len l) 1)=true
 o2:A.cmp .lss (A.bin .sub .i64 (A.len l) 1) (A.len l)=true
 ini:A.cmp .eql (A.len l) 0=false→BtI l (A.bin .mul .i64 32 (A.bin .sub .i64 (A.len l) 1)) (A.get l (A.bin .sub .i64 (A.len l) 1) 0)
theorem IJ {l:List Int} (hl:Mag l) (A:Alg) (hA:A=aA) (M:SM) (hM:M=aZ):Mz A M l:=by
 subst hA hM
 have hn:=hl.n
 have e1:aA.bin .sub .i64 (aA.len l) 1=(l.length:Int) - 1:=by show aD .sub .i64 (l.length:Int) 1=_;simp only[aD,IntKind.wrap_i64];omega
 have hz: ∀ b,aA.cmp .eql (aA.len l) 0=b→((l.length:Int) == 0)=b:=fun b h=>h
 exact {
  z:=fun h=>by
   have h:=hz _ h
   simp only[beq_iff_eq] at h
   have:l=[]:=List.eq_nil_of_length_eq_zero (by omega)
   subst this;rfl
  o1:=fun h=>by
   have h:=hz _ h
   simp only[beq_eq_false_iff_ne,ne_eq] at h
   rw[e1];exact bJ _ rfl _ _ (by omega)
  o2:=by rw[e1];exact bH _ rfl _ _ (by show(l.length:Int) - 1 < l.length;omega)
  ini:=fun h=>by
   have h:=hz _ h
   simp only[beq_eq_false_iff_ne,ne_eq] at h
   rw[e1]
   have e2:aA.bin .mul .i64 32 ((l.length:Int) - 1)=32*((l.length:Int) - 1):=by show aD .mul .i64 32 _=_;simp only[aD,IntKind.wrap_i64];omega
   have e3:aA.get l ((l.length:Int) - 1) 0=l.getD (l.length - 1) 0:=by show l.getD ((l.length:Int) - 1).toNat 0=_;congr 1;omega
   rw[e2,e3]
   have hw:=hl.w.getD (l.length - 1)
   refine⟨by omega,hw.1,hw.2,?_,by omega⟩
   rw[Dn hl (by omega)]
   omega }
structure MA (A:Alg) (l:List Int) (n x:Int):Prop where
 nx:BtI l (A.bin .add .i64 n 1) (A.bin .shr .u32 x 1)
 ms:(A.bin .shr .u32 x 1).toNat < x.toNat
theorem IK {l:List Int} (hl:Mag l) {n x:Int} (hI:BtI l n x) (A:Alg) (hA:A=aA) (hb:A.cmp .gtr x 0=true):MA A l n x:=by
 subst hA
 have hb:x > 0:=of_decide_eq_true hb
 obtain⟨n0,x0,x1,h,n1⟩:=hI
 have hln:=hl.n
 have hlv:bP (aM l)≤32000:=iE _ _ (Nat.lt_of_lt_of_le (dU hl.w) (Nat.pow_le_pow_right (by decide) (by omega)))
 have e1:aA.bin .shr .u32 x 1=x / 2:=by
  show x.fdiv (2 ^ min (1:Int).toNat 32)=_
  rw[Int.fdiv_eq_ediv_of_nonneg _ (by decide)];rfl
 have e2:aA.bin .add .i64 n 1=n+1:=by show aD .add .i64 n 1=_;simp only[aD,IntKind.wrap_i64];omega
 rw[Bl (x:=x.toNat) (by omega)] at h
 refine⟨?_,by rw[e1];omega⟩
 rw[e1,e2]
 refine⟨by omega,by omega,by omega,?_,by omega⟩
 rw[show(x / 2).toNat=x.toNat / 2 by omega]
 omega
theorem M3 {l:List Int} {n x:Int} (hI:BtI l n x) (A:Alg) (hA:A=aA) (M:SM) (hM:M=aZ) (hb:A.cmp .gtr x 0=false):n=M.bits l:=by
 subst hA hM
 have hb: ¬ x > 0:=of_decide_eq_false hb
 obtain⟨n0,x0,x1,h,n1⟩:=hI
 have:x=0:=by omega
 subst this
 have h:n+((bP 0:Nat):Int)=((bP (aM l):Nat):Int):=h
 show n=((bP (aM l):Nat):Int)
 rw[← h]
 show n=n+((0:Nat):Int)
 omega
theorem Gk:aJ Tryz.prog 147 (aC [.s (.int .u32)] aA (C4 aA aZ)):=by
 refine aH (un:=⟨false,some [0,2,3,4,7,19]⟩) tok LD aL (fn:=Tryz.f147) ?_
 intro w Wr args bs r hg ho hWr A L k hA hL hk
 obtain⟨M,hM⟩:=exE aZ
 obtain⟨S,hS⟩:=exE aV
 obtain⟨V,hV⟩:=exE aS
 obtain⟨X,hX⟩:=exE bR
 try rw[← hM]
 try rw[← hS]
 try rw[← hV]
 try rw[← hX]
 try rw[← hA]
 unfold C4 at hg
 split at hg <;> cases hg
 rename_i l
 have hl:Mag l:=aX.1 ((aG ho).1)
 clear ho
 have hd:=IJ hl A hA M hM
 cbv
 repeat' with_reducible first | (intro hb;cbv) | refine UM ?_ ?_
 all_goals first | exact hd.o1 (by assumption) | exact hd.o2 | skip
 ·refine hk _ _ (bE.pure rfl fun ρ=>?_)
  subst hM
  exact Ak (hd.z hb)
 ·have i0:=hd.ini hb
  clear hd
  refine hL _ _ _ (aQ (un:=⟨false,some [0,2,3,4,19]⟩) tok LD aL (fun p:Int×Int=>⟨[(3,⟨[], .c (.s (.int .i64 p.1))⟩),(4,⟨[], .c (.s (.int .u32 p.2))⟩),(0,⟨[], .c (.s (.hs 0))⟩)],[(0, .vec false (.int .u32) l)],1⟩)
   (fun p=>BtI l p.1 p.2) (fun p=>p.2.toNat) (_,_) i0 ?_ (fun _ i hi=>by have:=hWr i hi;simp at this;show i < 1;omega) ?_)
  ·exact⟨⟨⟨rfl,rfl,fun _=>rfl⟩,⟨rfl,rfl,fun _=>rfl⟩,⟨rfl,rfl,fun _=>rfl⟩,trivial⟩,⟨aF rfl,trivial⟩,rfl,rfl⟩
  clear i0 hb
  rintro⟨n,x⟩ hI A2 L2 k2 hA2 hL2 hnext hexit hret
  have st:=fun hb:A2.cmp .gtr x 0=true=>IK hl hI A2 hA2 hb
  have en:=fun hb:A2.cmp .gtr x 0=false=>M3 hI A2 hA2 M hM hb
  clear hI
  rw[← hA2, ← hS, ← hV, ← hX, ← hM]
  cbv
  repeat' with_reducible first | (intro hb;cbv) | refine UM ?_ ?_
  ·refine hnext _ (_,_) (st hb).nx (st hb).ms ?_
   exact⟨⟨⟨rfl,rfl,fun _=>rfl⟩,⟨rfl,rfl,fun _=>rfl⟩,⟨rfl,rfl,fun _=>rfl⟩,trivial⟩,⟨aF rfl,trivial⟩,rfl,rfl⟩
  ·have:=en hb
   apply hexit
   clear hexit hnext hret st en
   cbv
   refine hk _ _ (bE.pure rfl fun ρ=>?_)
   subst hM
   exact B2 this
def tM8 (A:Alg) (S:SW) (V:SV) (X:SX) (M:SM):List (Nat×bU):=(147,aC [.s (.int .u32)] A (C4 A M)) :: ((tM7 A S V X M))
theorem Hs:COK Tryz.prog (aN (tM8 aA aV aS bR aZ)):=aB Gk (LD)
def Bb (A:Alg) (M:SM):List CV→List Blk→Option LR
 | [.s (.hs 0), .s (.hs 1)],[.vec false (.int .u32) l, .vec false (.int .u32) m]=>some ⟨[M.ok l,M.ok m], .c (.s (.hs 2)),[.vec false (.int .u32) (M.mul l m)]⟩
 | _,_=>none
structure MlO (l m:List Int) (i:Int) (R:List Int):Prop where
 i0:0≤i
 i1:i≤(l.length:Int)
 len:R.length=l.length+m.length
 w:W32 R
 eq:aM R=aM (l.take i.toNat)*aM m
theorem W32.rep0 (n:Nat):W32 (List.replicate n 0):=fun v hv=>by
 have:=List.eq_of_mem_replicate hv
 omega
theorem MlO.init (l m:List Int):MlO l m 0 (List.replicate (l.length+m.length) 0):=
 ⟨Int.le_refl 0,by omega,by simp,W32.rep0 _,by rw[kQ];simp[aM]⟩
structure MlI (l m:List Int) (i k:Int) (R:List Int) (c:Int):Prop where
 i0:0≤i
 i1:i < (l.length:Int)
 k0:0≤k
 k1:k≤(m.length:Int)
 len:R.length=l.length+m.length
 w:W32 R
 c0:0≤c
 c1:c < 4294967296
 eq:aM R+2 ^ (32*(i.toNat+k.toNat))*c.toNat=aM (l.take i.toNat)*aM m+2 ^ (32*i.toNat)*((l.getD i.toNat 0).toNat*aM (m.take k.toNat))
 z:aM (R.drop (i.toNat+m.length))=0
theorem F0 {l m:List Int} (hl:Mag l) (hm:Mag m) {i:Int} {R:List Int} (hI:MlO l m i R) (A:Alg) (hA:A=aA) (hb:A.cmp .lss i (A.len l)=true):MlI l m i 0 R 0:=by
 subst hA
 obtain⟨i0,i1,hlen,hw,heq⟩:=hI
 have hb:i < (l.length:Int):=of_decide_eq_true hb
 refine⟨i0,hb,Int.le_refl 0,by omega,hlen,hw,Int.le_refl 0,by decide,?_,?_⟩
 ·show aM R+2 ^ (32*(i.toNat+0))*0=_+2 ^ (32*i.toNat)*(_*aM (m.take 0))
  rw[heq];simp[aM]
 ·rw[kO hw _ (by omega)]
  have h1:=dU (hl.w.take i.toNat)
  rw[List.length_take,Nat.min_eq_left (by omega)] at h1
  have h2:=dU hm.w
  refine Nat.div_eq_of_lt ?_
  rw[heq,Nat.mul_add,Nat.pow_add]
  rcases Nat.eq_zero_or_pos (aM m) with h0 | h0
  ·rw[h0,Nat.mul_zero];exact Nat.mul_pos (Nat.two_pow_pos _) (Nat.two_pow_pos _)
  ·exact Nat.lt_of_lt_of_le (Nat.mul_lt_mul_of_pos_right h1 h0) (Nat.mul_le_mul_left _ (Nat.le_of_lt h2))
theorem Nu {l m:List Int} (hl:Mag l) (hm:Mag m) {i:Int} {R:List Int} (hI:MlO l m i R) (A:Alg) (hA:A=aA) (X:SX) (hX:X=bR) (B:SM) (hB:B=aZ) (hb:A.cmp .lss i (A.len l)=false):sB A X R (B.mul l m):=by
 subst hB
 obtain⟨i0,i1,hlen,hw,heq⟩:=hI
 have hln:=hl.n
 have hmn:=hm.n
 refine qY hw (by omega) ?_ A hA X hX
 subst hA
 have hb: ¬ i < (l.length:Int):=of_decide_eq_false hb
 rw[List.take_of_length_le (by omega)] at heq
 exact heq
structure ML (A:Alg) (l m:List Int) (i k:Int) (R:List Int) (c t j:Int):Prop where
 o1:A.cmp .leq 0 i=true
 o2:A.cmp .lss i (A.len l)=true
 o3:A.cmp .leq 0 k=true
 o4:A.cmp .lss k (A.len m)=true
 o5:A.cmp .leq 0 j=true
 o6:A.cmp .lss j (A.len R)=true
 nx:MlI l m i (k+1) (A.set R j (A.wrap .u32 t)) (A.bin .shr .u64 t 32)
 ad:A.bin .add .i64 k 1=k+1
 ms:((m.length:Int) - (k+1)).toNat < ((m.length:Int) - k).toNat
theorem Ka {l m:List Int} (hl:Mag l) (hm:Mag m) {i k:Int} {R:List Int} {c:Int} (hI:MlI l m i k R c) (A:Alg) (hA:A=aA) (hb:A.cmp .lss k (A.len m)=true) (j t:Int) (hj:j=A.bin .add .i64 i k)
  (ht:t=A.bin .add .u64 (A.bin .add .u64 c (A.bin .mul .u64 (A.wrap .u64 (A.get l i 0)) (A.wrap .u64 (A.get m k 0)))) (A.wrap .u64 (A.get R j 0))):ML A l m i k R c t j:=by
 have hb2:=hb
 subst hA
 obtain⟨i0,i1,k0,k1,hlen,hw,c0,c1,heq,hz⟩:=hI
 have hb:k < (m.length:Int):=of_decide_eq_true hb
 have hln:=hl.n
 have hmn:=hm.n
 have ej:j=i+k:=by rw[hj];show aD .add .i64 i k=_;simp only[aD,IntKind.wrap_i64];omega
 have ejn:j.toNat=i.toNat+k.toNat:=by omega
 have gl:=hl.w.getD i.toNat
 have gm:=hm.w.getD k.toNat
 have gr:=hw.getD j.toNat
 have hwr: ∀ v:Int,0≤v→v < 4294967296→IntKind.u64.wrap v=v:=fun v h1 h2=>by rw[cX];omega
 obtain⟨x,hx⟩: ∃ x:Nat,(x:Int)=l.getD i.toNat 0:=⟨(l.getD i.toNat 0).toNat,by omega⟩
 obtain⟨y,hy⟩: ∃ y:Nat,(y:Int)=m.getD k.toNat 0:=⟨(m.getD k.toNat 0).toNat,by omega⟩
 obtain⟨z,hz'⟩: ∃ z:Nat,(z:Int)=R.getD j.toNat 0:=⟨(R.getD j.toNat 0).toNat,by omega⟩
 obtain⟨d,hd⟩: ∃ d:Nat,(d:Int)=c:=⟨c.toNat,by omega⟩
 have hxy:x*y≤4294967295*4294967295:=Nat.mul_le_mul (by omega) (by omega)
 have hxyc:((x*y:Nat):Int)=(x:Int)*y:=Int.natCast_mul _ _
 have et:t=((d+x*y+z:Nat):Int):=by
  rw[ht]
  show aD .add .u64 (aD .add .u64 c (aD .mul .u64 (IntKind.u64.wrap (l.getD i.toNat 0)) (IntKind.u64.wrap (m.getD k.toNat 0)))) (IntKind.u64.wrap (R.getD j.toNat 0))=_
  rw[hwr _ gl.1 gl.2,hwr _ gm.1 gm.2,hwr _ gr.1 gr.2, ← hx, ← hy, ← hz', ← hd]
  simp only[aD,cX, ← hxyc]
  omega
 have e1:aA.wrap .u32 t=(((d+x*y+z) % 2 ^ 32:Nat):Int):=by rw[et];show IntKind.u32.wrap _=_;rw[IntKind.wrap_u32];omega
 have e2:aA.bin .shr .u64 t 32=(((d+x*y+z) / 2 ^ 32:Nat):Int):=by rw[et];show aD .shr .u64 _ 32=_;rw[gK _ (by omega)];omega
 have hkn:(k+1).toNat=k.toNat+1:=by omega
 exact {
  o1:=bJ _ rfl _ _ i0
  o2:=bH _ rfl _ _ i1
  o3:=bJ _ rfl _ _ k0
  o4:=hb2
  o5:=bJ _ rfl _ _ (by omega)
  o6:=bH _ rfl _ _ (by show j < (R.length:Int);omega)
  nx:=by
   rw[e1,e2]
   have hs:=nO R j.toNat (((d+x*y+z) % 2 ^ 32:Nat):Int) (by omega)
   refine⟨i0,i1,by omega,by omega,?_,hw.set _ (by omega),by omega,by omega,?_,?_⟩
   ·show(R.set j.toNat _).length=_
    rw[List.length_set];exact hlen
   ·show aM (R.set j.toNat _)+_=_
    rw[hkn,fY, ← Nat.add_assoc,cV,Int.toNat_natCast]
    rw[Int.toNat_natCast,ejn] at hs
    rw[show(R.getD (i.toNat+k.toNat) 0).toNat=z by rw[← ejn];omega] at hs
    rw[show(m.getD k.toNat 0).toNat=y by omega]
    rw[show(l.getD i.toNat 0).toNat=x by omega] at heq ⊢
    rw[show c.toNat=d by omega] at heq
    rw[← ejn] at hs ⊢
    rw[← ejn] at heq
    rw[Nat.mul_add,Nat.mul_add, ← Nat.add_assoc, ← heq]
    have hpow:2 ^ (32*i.toNat)*(x*(2 ^ (32*k.toNat)*y))=2 ^ (32*j.toNat)*(x*y):=by
     rw[ejn,Nat.mul_add,Nat.pow_add]
     generalize 2 ^ (32*i.toNat)=P
     generalize 2 ^ (32*k.toNat)=Q
     rw[Nat.mul_left_comm x Q y,Nat.mul_assoc]
    rw[hpow]
    have hdm:d+x*y+z=(d+x*y+z) % 2 ^ 32+2 ^ 32*((d+x*y+z) / 2 ^ 32):=by omega
    generalize 2 ^ (32*j.toNat)=P at *
    have h3:P*(d+x*y+z)=P*((d+x*y+z) % 2 ^ 32)+P*2 ^ 32*((d+x*y+z) / 2 ^ 32):=by
     conv=>lhs;rw[hdm]
     rw[Nat.mul_add,Nat.mul_assoc]
    rw[Nat.mul_add,Nat.mul_add] at h3
    omega
   ·show aM ((R.set j.toNat _).drop (i.toNat+m.length))=0
    rw[List.drop_set_of_lt (by omega)]
    exact hz
  ad:=by show aD .add .i64 k 1=k+1;simp only[aD,IntKind.wrap_i64];omega
  ms:=by omega }
structure Py (A:Alg) (l m:List Int) (i:Int) (R:List Int) (c j:Int):Prop where
 o1:A.cmp .leq 0 j=true
 o2:A.cmp .lss j (A.len R)=true
 nx:MlO l m (i+1) (A.set R j (A.wrap .u32 c))
 ad:A.bin .add .i64 i 1=i+1
 ms:((l.length:Int) - (i+1)).toNat < ((l.length:Int) - i).toNat
theorem J9 {l m:List Int} (hl:Mag l) (hm:Mag m) {i k:Int} {R:List Int} {c:Int} (hI:MlI l m i k R c) (A:Alg) (hA:A=aA) (hb:A.cmp .lss k (A.len m)=false) (j:Int) (hj:j=A.bin .add .i64 i (A.len m)):Py A l m i R c j:=by
 subst hA
 obtain⟨i0,i1,k0,k1,hlen,hw,c0,c1,heq,hz⟩:=hI
 have hb: ¬ k < (m.length:Int):=of_decide_eq_false hb
 have hln:=hl.n
 have hmn:=hm.n
 have ej:j=i+(m.length:Int):=by rw[hj];show aD .add .i64 i (m.length:Int)=_;simp only[aD,IntKind.wrap_i64];omega
 have ejn:j.toNat=i.toNat+m.length:=by omega
 have hk:k.toNat=m.length:=by omega
 have e1:aA.wrap .u32 c=c:=by show IntKind.u32.wrap c=_;rw[IntKind.wrap_u32];omega
 exact {
  o1:=bJ _ rfl _ _ (by omega)
  o2:=bH _ rfl _ _ (by show j < (R.length:Int);omega)
  nx:=by
   rw[e1]
   have hs:=nO R j.toNat c (by omega)
   have hd:R.getD j.toNat 0=0:=by
    rw[ejn]
    have hlt:i.toNat+m.length < R.length:=by omega
    rw[List.drop_eq_getElem_cons hlt] at hz
    simp only[aM] at hz
    have hg:R.getD (i.toNat+m.length) 0=R[i.toNat+m.length]:=by simp[List.getD_eq_getElem?_getD,List.getElem?_eq_getElem hlt]
    have:=(hw.getD (i.toNat+m.length)).1
    omega
   rw[hd] at hs
   refine⟨by omega,by omega,?_,hw.set _ (by omega),?_⟩
   ·show(R.set j.toNat c).length=_
    rw[List.length_set];exact hlen
   ·show aM (R.set j.toNat c)=_
    rw[hk,List.take_length] at heq
    rw[show(i+1).toNat=i.toNat+1 by omega,fY,Nat.add_mul,Nat.mul_assoc, ← heq, ← ejn]
    simpa using hs
  ad:=by show aD .add .i64 i 1=i+1;simp only[aD,IntKind.wrap_i64];omega
  ms:=by omega }
structure MK (A:Alg) (l m:List Int) (n:Int):Prop where
 o1:A.cmp .leq 0 n=true
 o2:A.cmp .eql n n=true
 o3:A.cmp .leq n 1000000=true
 i0:MlO l m 0 (A.rep n 0)
theorem J8 {l m:List Int} (hl:Mag l) (hm:Mag m) (A:Alg) (hA:A=aA) (n:Int) (hn:n=A.bin .add .i64 (A.len l) (A.len m)):MK A l m n:=by
 subst hA
 have hln:=hl.n
 have hmn:=hm.n
 have e:n=((l.length+m.length:Nat):Int):=by rw[hn];show aD .add .i64 (l.length:Int) (m.length:Int)=_;simp only[aD,IntKind.wrap_i64];omega
 exact {
  o1:=bJ _ rfl _ _ (by omega)
  o2:=by show(n == n)=true;simp
  o3:=bJ _ rfl _ _ (by omega)
  i0:=by
   have:aA.rep n (0:Int)=List.replicate (l.length+m.length) 0:=by show List.replicate n.toNat 0=_;rw[e,Int.toNat_natCast]
   rw[this];exact MlO.init l m }
theorem u5:aJ Tryz.prog 99 (bV [.s (.int .u32), .s (.int .u32)] aA (Bb aA aZ)):=by
 refine dM (un:=⟨false,some [0,1,4,5,6,7,8,18,24]⟩) tok Hs aL (fn:=Tryz.f99) ?_
 intro w Wr args bs r hg ho hWr A L k hA hL hk
 obtain⟨M,hM⟩:=exE aZ
 obtain⟨S,hS⟩:=exE aV
 obtain⟨V,hV⟩:=exE aS
 obtain⟨X,hX⟩:=exE bR
 try rw[← hM]
 try rw[← hS]
 try rw[← hV]
 try rw[← hX]
 try rw[← hA]
 unfold Bb at hg
 split at hg <;> cases hg
 rename_i l m
 have hl:Mag l:=aX.1 ((aG ho).1)
 have hm:Mag m:=aX.1 ((aG (aG ho).2).1)
 clear ho
 have hd:=J8 hl hm A hA _ rfl
 cbv
 repeat' with_reducible first | (intro hb;cbv) | refine UM ?_ ?_
 all_goals first | exact hd.o1 | exact hd.o2 | exact hd.o3 | skip
 have i0:=hd.i0
 clear hd
 refine hL _ _ _ (aQ (un:=⟨false,some [0,1,4,5,6,7,8,18,24]⟩) tok Hs aL (fun p:Int×List Int=>⟨[(6,⟨[], .c (.s (.int .i64 p.1))⟩),(5,⟨[], .c (.s (.hs 2))⟩),(0,⟨[], .c (.s (.hs 0))⟩),(1,⟨[], .c (.s (.hs 1))⟩)],[(0, .vec false (.int .u32) l),(1, .vec false (.int .u32) m),(2, .vec true (.int .u32) p.2)],3⟩)
  (fun p=>MlO l m p.1 p.2) (fun p=>((l.length:Int) - p.1).toNat) (0,_) i0 ?_ (fun _ i hi=>by have:=hWr i hi;simp at this;show i < 3;omega) ?_)
 ·exact⟨⟨⟨rfl,rfl,fun _=>rfl⟩,⟨rfl,rfl,fun _=>rfl⟩,⟨rfl,rfl,fun _=>rfl⟩,⟨rfl,rfl,fun _=>rfl⟩,trivial⟩,⟨aF rfl,aF rfl,aF rfl,trivial⟩,rfl,rfl⟩
 clear i0
 rintro⟨i,R⟩ hI A2 L2 k2 hA2 hL2 hnext hexit hret
 have m0:=fun hb=>F0 hl hm hI A2 hA2 hb
 have me:=fun hb=>Nu hl hm hI A hA X hX M hM (by rw[hA, ← hA2];exact hb)
 clear hI
 rw[← hA2, ← hS, ← hV, ← hX, ← hM]
 cbv
 with_reducible refine And.intro ?_ ?_
 ·intro hb
  have m0:=m0 hb
  clear me hexit hret
  cbv
  refine hL2 _ _ _ (aQ (un:=⟨false,some [0,1,4,5,6,7,8,18,24]⟩) tok Hs aL (fun p:Int×List Int×Int=>⟨[(8,⟨[], .c (.s (.int .i64 p.1))⟩),(7,⟨[], .c (.s (.int .u64 p.2.2))⟩),(6,⟨[], .c (.s (.int .i64 i))⟩),(5,⟨[], .c (.s (.hs 2))⟩),(0,⟨[], .c (.s (.hs 0))⟩),(1,⟨[], .c (.s (.hs 1))⟩)],[(0, .vec false (.int .u32) l),(1, .vec false (.int .u32) m),(2, .vec true (.int .u32) p.2.1)],3⟩)
   (fun p=>MlI l m i p.1 p.2.1 p.2.2) (fun p=>((m.length:Int) - p.1).toNat) (0,R,0) m0 ?_ (fun _ i hi=>by have:=hWr i hi;simp at this;show i < 3;omega) ?_)
  ·exact⟨⟨⟨rfl,rfl,fun _=>rfl⟩,⟨rfl,rfl,fun _=>rfl⟩,⟨rfl,rfl,fun _=>rfl⟩,⟨rfl,rfl,fun _=>rfl⟩,⟨rfl,rfl,fun _=>rfl⟩,⟨rfl,rfl,fun _=>rfl⟩,trivial⟩,⟨aF rfl,aF rfl,aF rfl,trivial⟩,rfl,rfl⟩
  clear m0
  rintro⟨k,R,c⟩ hI A3 L3 k3 hA3 hL3 hnext3 hexit3 hret3
  have st:=fun hb:A3.cmp .lss k (A3.len m)=true=>Ka hl hm hI A3 hA3 hb _ _ rfl rfl
  have en:=fun hb:A3.cmp .lss k (A3.len m)=false=>J9 hl hm hI A2 hA2 (by rw[hA2, ← hA3];exact hb) _ rfl
  clear hI
  rw[← hA3, ← hS, ← hV, ← hX, ← hM]
  cbv
  repeat' with_reducible first | (intro hb;cbv) | refine UM ?_ ?_
  all_goals first | exact(st hb).o1 | exact(st hb).o2 | exact(st hb).o3 | exact(st hb).o4 | exact(st hb).o5 | exact(st hb).o6 | skip
  ·refine hnext3 _ (k+1,_,_) (st hb).nx (st hb).ms ?_
   have ead:=(st hb).ad
   exact⟨⟨⟨rfl,rfl,leI ead⟩,⟨rfl,rfl,fun _=>rfl⟩,⟨rfl,rfl,fun _=>rfl⟩,⟨rfl,rfl,fun _=>rfl⟩,⟨rfl,rfl,fun _=>rfl⟩,⟨rfl,rfl,fun _=>rfl⟩,trivial⟩,⟨aF rfl,aF rfl,aF rfl,trivial⟩,rfl,rfl⟩
  ·apply hexit3
   have em:=en hb
   clear hexit3 hnext3 hret3 st en
   cbv
   repeat' with_reducible first | (intro hb;cbv) | refine UM ?_ ?_
   all_goals first | exact em.o1 | exact em.o2 | skip
   refine hnext _ (i+1,_) em.nx em.ms ?_
   have ead:=em.ad
   exact⟨⟨⟨rfl,rfl,leI ead⟩,⟨rfl,rfl,fun _=>rfl⟩,⟨rfl,rfl,fun _=>rfl⟩,⟨rfl,rfl,fun _=>rfl⟩,trivial⟩,⟨aF rfl,aF rfl,aF rfl,trivial⟩,rfl,rfl⟩
 ·intro hb
  apply hexit
  have em:=me hb
  clear hexit hnext hret m0 me hb
  cbv
  repeat' with_reducible first | (intro hb;cbv) | refine UM ?_ ?_
  all_goals first | exact em.o1 | skip
  subst hM
  exact hk _ _ (iV.one _ _ rfl (fun ρ=>Lc) (fO.hw rfl rfl (Int.le_refl 0) em.t0 em.t1 em.eq))
def tM9 (A:Alg) (S:SW) (V:SV) (X:SX) (M:SM):List (Nat×bU):=(99,bV [.s (.int .u32), .s (.int .u32)] A (Bb A M)) :: ((tM8 A S V X M))
theorem LE:COK Tryz.prog (aN (tM9 aA aV aS bR aZ)):=aB u5 (Hs)
end Go.Eng
