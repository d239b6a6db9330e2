
import Derived.Test.YtekohdfjkmdlpaaCNB
import Derived.Test.YtekohdfjkmdlpaaSpecMA
import Derived.Test.YtekohdfjkmdlpaaEngZA
set_option linter.all false
set_option exponentiation.threshold 3000
namespace Go.Eng
open Go.Proofs
set_option maxRecDepth 100000
set_option linter.all false
set_option exponentiation.threshold 3000
structure SX where
 tlen:List Int→Int
 rng:List Int→Bool
 wOK:List Int→Bool
 wV:Bool→List Int→Wd
def bR:SX where
 tlen l:=((Eng.tlen l:Nat):Int)
 rng:=Eng.rng
 wOK l:=decide (Eng.tlen l≤32)
 wV b l:=if Eng.tlen l≤32 then tld b (bX (iU l)) else⟨false,Dg.zero⟩
def JR (A:Alg) (X:SX):List CV→List Blk→Option LR
 | [.s (.hs 0)],[.vec false (.int .u32) l]=>some ⟨[A.cmp .lss (A.len l) 1000000], .c (.s (.hw 0 1 0 (X.tlen l))),[]⟩
 | _,_=>none
theorem KV:aJ Try.prog 56 (aC [.s (.int .u32)] aA (JR aA bR)):=by
 refine aH (un:=⟨false,none⟩) tok nF aL (fn:=Try.f56) (by kernel_rfl) (by kernel_rfl) (by kernel_rfl) (by decide +kernel) ?_
 intro w Wr args bs r hg ho hWr A L k hA hL hk
 obtain⟨X,hX⟩: ∃ X,X=bR:=⟨_,rfl⟩
 (try rw[← hX])
 (try rw[← hA])
 unfold JR at hg
 split at hg
 rotate_left
 ·cases hg
 simp only[Option.some.injEq] at hg
 subst hg
 rename_i l
 change List Int at l
 have hlen:(l.length:Int) < 1000000:=of_decide_eq_true (ho _ (by simp[aA,aP]))
 cbv
 refine hL _ _ _ (aQ (un:=⟨false,none⟩) tok nF aL (fun n:Int=>⟨[(3,⟨[], .c (.s (.int .i64 n))⟩),(2,⟨[], .c (.s .nils)⟩),(0,⟨[], .c (.s (.hs 0))⟩)],[(0, .vec false (.int .u32) l)],1⟩)
  (fun n=>0≤n∧n≤l.length∧ ∀ i,n.toNat≤i→i < l.length→l.getD i 0=0) (fun n=>n.toNat) (A.len l) ?_ ?_ (fun _ i hi=>hWr i hi) ?_)
 ·rw[hA]
  refine⟨?_,?_,fun i h1 h2=>?_⟩
  ·show 0≤(l.length:Int);omega
  ·show(l.length:Int)≤l.length;omega
  ·have h1:((l.length:Int)).toNat≤i:=h1
   omega
 ·exact⟨⟨⟨rfl,rfl,fun _=>rfl⟩,⟨rfl,rfl,fun _=>rfl⟩,⟨rfl,rfl,fun _=>rfl⟩,trivial⟩,⟨⟨rfl,rfl,rfl,rfl,fun h=>h⟩,trivial⟩,rfl,rfl⟩
 intro n hI A2 L2 k2 hA2 hL2 hnext hexit hret
 obtain⟨h0,h1,h2⟩:=hI
 cbv
 repeat' first | (with_reducible intro hb;cbv) | with_reducible refine And.intro ?_ ?_
 ·(try clear hk);(try clear hL);(try clear hexit hnext hret);(try clear hexit2 hnext2 hret2);(try clear hL2);(try clear hL3);(try clear hexit3 hnext3 hret3);(try subst hA3);(try subst hA2);(try subst hA);(try simp only[vH] at *);(try simp only[zn] at *);(try simp only[aA,aP,aD,Bool.if_false_right,Bool.if_true_left,Bool.decide_eq_true,Bool.and_eq_false_iff,Bool.or_eq_false_iff,IntKind.wrap_i64,IntKind.wrap_u32,IntKind.wrap_u8,cX,Int.zero_add,Int.sub_zero,bM,beq_true,Bool.or_eq_true,Bool.and_eq_true,Bool.not_eq_true',decide_eq_true_eq,decide_eq_false_iff_not,beq_iff_eq,bne_iff_ne,beq_eq_false_iff_ne,ne_eq,if_true,if_false] at *);omega
 ·(try clear hk);(try clear hL);(try clear hexit hnext hret);(try clear hexit2 hnext2 hret2);(try clear hL2);(try clear hL3);(try clear hexit3 hnext3 hret3);(try subst hA3);(try subst hA2);(try subst hA);(try simp only[vH] at *);(try simp only[zn] at *);(try simp only[aA,aP,aD,Bool.if_false_right,Bool.if_true_left,Bool.decide_eq_true,Bool.and_eq_false_iff,Bool.or_eq_false_iff,IntKind.wrap_i64,IntKind.wrap_u32,IntKind.wrap_u8,cX,Int.zero_add,Int.sub_zero,bM,beq_true,Bool.or_eq_true,Bool.and_eq_true,Bool.not_eq_true',decide_eq_true_eq,decide_eq_false_iff_not,beq_iff_eq,bne_iff_ne,beq_eq_false_iff_ne,ne_eq,if_true,if_false] at *);omega
 ·(try clear hk);(try clear hL);(try clear hexit hnext hret);(try clear hexit2 hnext2 hret2);(try clear hL2);(try clear hL3);(try clear hexit3 hnext3 hret3);(try subst hA3);(try subst hA2);(try subst hA);(try simp only[vH] at *);(try simp only[zn] at *);(try simp only[aA,aP,aD,Bool.if_false_right,Bool.if_true_left,Bool.decide_eq_true,Bool.and_eq_false_iff,Bool.or_eq_false_iff,IntKind.wrap_i64,IntKind.wrap_u32,IntKind.wrap_u8,cX,Int.zero_add,Int.sub_zero,bM,beq_true,Bool.or_eq_true,Bool.and_eq_true,Bool.not_eq_true',decide_eq_true_eq,decide_eq_false_iff_not,beq_iff_eq,bne_iff_ne,beq_eq_false_iff_ne,ne_eq,if_true,if_false] at *);omega
 ·(try clear hk);(try clear hL);(try clear hexit hnext hret);(try clear hexit2 hnext2 hret2);(try clear hL2);(try clear hL3);(try clear hexit3 hnext3 hret3);(try subst hA3);(try subst hA2);(try subst hA);(try simp only[vH] at *);(try simp only[zn] at *);(try simp only[aA,aP,aD,Bool.if_false_right,Bool.if_true_left,Bool.decide_eq_true,Bool.and_eq_false_iff,Bool.or_eq_false_iff,IntKind.wrap_i64,IntKind.wrap_u32,IntKind.wrap_u8,cX,Int.zero_add,Int.sub_zero,bM,beq_true,Bool.or_eq_true,Bool.and_eq_true,Bool.not_eq_true',decide_eq_true_eq,decide_eq_false_iff_not,beq_iff_eq,bne_iff_ne,beq_eq_false_iff_ne,ne_eq,if_true,if_false] at *);omega
 ·have hs:A2.bin .sub .i64 n 1=n - 1:=by(try clear hk);(try clear hL);(try clear hexit hnext hret);(try clear hexit2 hnext2 hret2);(try clear hL2);(try clear hL3);(try clear hexit3 hnext3 hret3);(try subst hA3);(try subst hA2);(try subst hA);(try simp only[vH] at *);(try simp only[zn] at *);(try simp only[aA,aP,aD,Bool.if_false_right,Bool.if_true_left,Bool.decide_eq_true,Bool.and_eq_false_iff,Bool.or_eq_false_iff,IntKind.wrap_i64,IntKind.wrap_u32,IntKind.wrap_u8,cX,Int.zero_add,Int.sub_zero,bM,beq_true,Bool.or_eq_true,Bool.and_eq_true,Bool.not_eq_true',decide_eq_true_eq,decide_eq_false_iff_not,beq_iff_eq,bne_iff_ne,beq_eq_false_iff_ne,ne_eq,if_true,if_false] at *);omega
  simp only[hs] at hb ⊢
  rw[hA2] at hb
  have hb:(if decide (n > 0)=true then(l.getD (n - 1).toNat 0 == 0) else false)=true:=hb
  split at hb
  ·rename_i hn
   simp only[decide_eq_true_eq,beq_iff_eq] at hn hb
   refine hnext _ (n - 1) ?_ ?_ ?_
   ·clear hexit hnext hret hL hL2 hk
    (try simp only[vH] at *);(try simp only[zn] at *)
    refine⟨by omega,by omega,fun i h3 h4=>?_⟩
    by_cases hi:i=(n - 1).toNat
    ·rw[hi];exact hb
    ·exact h2 i (by omega) h4
   ·show(n - 1).toNat < n.toNat;omega
   ·exact⟨⟨⟨rfl,rfl,fun _=>rfl⟩,⟨rfl,rfl,fun _=>rfl⟩,⟨rfl,rfl,fun _=>rfl⟩,trivial⟩,⟨⟨rfl,rfl,rfl,rfl,fun h=>h⟩,trivial⟩,rfl,rfl⟩
  ·cases hb
 ·have hs:A2.bin .sub .i64 n 1=n - 1:=by(try clear hk);(try clear hL);(try clear hexit hnext hret);(try clear hexit2 hnext2 hret2);(try clear hL2);(try clear hL3);(try clear hexit3 hnext3 hret3);(try subst hA3);(try subst hA2);(try subst hA);(try simp only[vH] at *);(try simp only[zn] at *);(try simp only[aA,aP,aD,Bool.if_false_right,Bool.if_true_left,Bool.decide_eq_true,Bool.and_eq_false_iff,Bool.or_eq_false_iff,IntKind.wrap_i64,IntKind.wrap_u32,IntKind.wrap_u8,cX,Int.zero_add,Int.sub_zero,bM,beq_true,Bool.or_eq_true,Bool.and_eq_true,Bool.not_eq_true',decide_eq_true_eq,decide_eq_false_iff_not,beq_iff_eq,bne_iff_ne,beq_eq_false_iff_ne,ne_eq,if_true,if_false] at *);omega
  simp only[hs] at hb
  rw[hA2] at hb
  have hb:(if decide (n > 0)=true then(l.getD (n - 1).toNat 0 == 0) else false)=false:=hb
  apply hexit
  cbv
  repeat' first | (with_reducible intro hb;cbv) | with_reducible refine And.intro ?_ ?_
  ·(try clear hk);(try clear hL);(try clear hexit hnext hret);(try clear hexit2 hnext2 hret2);(try clear hL2);(try clear hL3);(try clear hexit3 hnext3 hret3);(try subst hA3);(try subst hA2);(try subst hA);(try simp only[vH] at *);(try simp only[zn] at *);(try simp only[aA,aP,aD,Bool.if_false_right,Bool.if_true_left,Bool.decide_eq_true,Bool.and_eq_false_iff,Bool.or_eq_false_iff,IntKind.wrap_i64,IntKind.wrap_u32,IntKind.wrap_u8,cX,Int.zero_add,Int.sub_zero,bM,beq_true,Bool.or_eq_true,Bool.and_eq_true,Bool.not_eq_true',decide_eq_true_eq,decide_eq_false_iff_not,beq_iff_eq,bne_iff_ne,beq_eq_false_iff_ne,ne_eq,if_true,if_false] at *);omega
  ·(try clear hk);(try clear hL);(try clear hexit hnext hret);(try clear hexit2 hnext2 hret2);(try clear hL2);(try clear hL3);(try clear hexit3 hnext3 hret3);(try subst hA3);(try subst hA2);(try subst hA);(try simp only[vH] at *);(try simp only[zn] at *);(try simp only[aA,aP,aD,Bool.if_false_right,Bool.if_true_left,Bool.decide_eq_true,Bool.and_eq_false_iff,Bool.or_eq_false_iff,IntKind.wrap_i64,IntKind.wrap_u32,IntKind.wrap_u8,cX,Int.zero_add,Int.sub_zero,bM,beq_true,Bool.or_eq_true,Bool.and_eq_true,Bool.not_eq_true',decide_eq_true_eq,decide_eq_false_iff_not,beq_iff_eq,bne_iff_ne,beq_eq_false_iff_ne,ne_eq,if_true,if_false] at *);omega
  ·(try clear hk);(try clear hL);(try clear hexit hnext hret);(try clear hexit2 hnext2 hret2);(try clear hL2);(try clear hL3);(try clear hexit3 hnext3 hret3);(try subst hA3);(try subst hA2);(try subst hA);(try simp only[vH] at *);(try simp only[zn] at *);(try simp only[aA,aP,aD,Bool.if_false_right,Bool.if_true_left,Bool.decide_eq_true,Bool.and_eq_false_iff,Bool.or_eq_false_iff,IntKind.wrap_i64,IntKind.wrap_u32,IntKind.wrap_u8,cX,Int.zero_add,Int.sub_zero,bM,beq_true,Bool.or_eq_true,Bool.and_eq_true,Bool.not_eq_true',decide_eq_true_eq,decide_eq_false_iff_not,beq_iff_eq,bne_iff_ne,beq_eq_false_iff_ne,ne_eq,if_true,if_false] at *);omega
  ·refine hk _ _ (bE.pure rfl fun ρ=>?_)
   clear hexit hnext hret hL hL2 hk
   subst hX
   have:n=((tlen l:Nat):Int):=by
    (try simp only[vH] at *);(try simp only[zn] at *)
    rw[yW l n.toNat (by omega) h2]
    ·omega
    ·split at hb
     ·rename_i hn
      simp only[decide_eq_true_eq,beq_eq_false_iff_ne,ne_eq] at hn hb
      right;rw[show n.toNat - 1=(n - 1).toNat from by omega];exact hb
     ·rename_i hn
      simp only[decide_eq_true_eq] at hn
      left;omega
   show(Sc.hw 0 1 0 n).den ρ=(Sc.hw 0 1 0 ((tlen l:Nat):Int)).den ρ
   rw[← this]
def tM1 (A:Alg) (S:SW) (V:SV) (X:SX):List (Nat×bU):=(56,aC [.s (.int .u32)] A (JR A X)) :: ((R9 A S V))
theorem Lz:COK Try.prog (aN (tM1 aA aV aS bR)):=aB KV (OQ)
def JS (A:Alg) (X:SX):List CV→List Blk→Option LR
 | [.s (.bool b), .s (.hs 0)],[.vec false (.int .u32) l]=>some ⟨[A.cmp .lss (A.len l) 1000000,X.rng l], .t [.g [.W (X.wV b l)], .s (.bool (X.wOK l))],[]⟩
 | _,_=>none
theorem ED (b:Bool) (l:List Int) (h:tlen l≠0) (hr:inR l) (h32:tlen l≤32):tld b (bX (iU l))=⟨b,bX (iU l)⟩:=by
 have h1:=Dv hr h
 have h2:=Nat.two_pow_pos (32*(tlen l - 1))
 have h3:iU l < 2 ^ 1024:=v7 (iH hr) (by omega)
 have e:(bX (iU l)).n=iU l:=Nat.mod_eq_of_lt h3
 unfold tld
 rw[e,decide_eq_true (show iU l≠0 by omega),Bool.and_true]
theorem K2:aJ Try.prog 45 (aC [.v, .s (.int .u32)] aA (JS aA bR)):=by
 refine aH (un:=⟨false,none⟩) tok Lz aL (fn:=Try.f45) (by kernel_rfl) (by kernel_rfl) (by kernel_rfl) (by decide +kernel) ?_
 intro w Wr args bs r hg ho hWr A L k hA hL hk
 obtain⟨S,hS⟩: ∃ S,S=aV:=⟨_,rfl⟩
 obtain⟨V,hV⟩: ∃ V,V=aS:=⟨_,rfl⟩
 obtain⟨X,hX⟩: ∃ X,X=bR:=⟨_,rfl⟩
 (try rw[← hS])
 (try rw[← hV])
 (try rw[← hX])
 (try rw[← hA])
 unfold JS at hg
 split at hg
 rotate_left
 ·cases hg
 simp only[Option.some.injEq] at hg
 subst hg
 rename_i b l
 change List Int at l
 have hlen:(l.length:Int) < 1000000:=of_decide_eq_true (ho _ (by simp[aA,aP]))
 have hr:inR l:=Ed.1 (ho _ (by simp[bR]))
 have ht:=iS l
 have hT0:(0:Int)≤((tlen l:Nat):Int):=by omega
 cbv
 repeat' first | (with_reducible intro hb;cbv) | with_reducible refine And.intro ?_ ?_
 ·(try clear hk);(try clear hL);(try clear hexit hnext hret);(try clear hexit2 hnext2 hret2);(try clear hL2);(try clear hL3);(try clear hexit3 hnext3 hret3);(try subst hA3);(try subst hA2);(try subst hA);(try simp only[vH] at *);(try simp only[zn] at *);(try simp only[aA,aP,aD,Bool.if_false_right,Bool.if_true_left,Bool.decide_eq_true,Bool.and_eq_false_iff,Bool.or_eq_false_iff,IntKind.wrap_i64,IntKind.wrap_u32,IntKind.wrap_u8,cX,Int.zero_add,Int.sub_zero,bM,beq_true,Bool.or_eq_true,Bool.and_eq_true,Bool.not_eq_true',decide_eq_true_eq,decide_eq_false_iff_not,beq_iff_eq,bne_iff_ne,beq_eq_false_iff_ne,ne_eq,if_true,if_false] at *);omega
 ·(try clear hk);(try clear hL);(try clear hexit hnext hret);(try clear hexit2 hnext2 hret2);(try clear hL2);(try clear hL3);(try clear hexit3 hnext3 hret3);(try subst hA3);(try subst hA2);(try subst hA);(try simp only[vH] at *);(try simp only[zn] at *);(try simp only[aA,aP,aD,Bool.if_false_right,Bool.if_true_left,Bool.decide_eq_true,Bool.and_eq_false_iff,Bool.or_eq_false_iff,IntKind.wrap_i64,IntKind.wrap_u32,IntKind.wrap_u8,cX,Int.zero_add,Int.sub_zero,bM,beq_true,Bool.or_eq_true,Bool.and_eq_true,Bool.not_eq_true',decide_eq_true_eq,decide_eq_false_iff_not,beq_iff_eq,bne_iff_ne,beq_eq_false_iff_ne,ne_eq,if_true,if_false] at *);omega
 ·subst hX;(try clear hk);(try clear hL);(try clear hexit hnext hret);(try clear hexit2 hnext2 hret2);(try clear hL2);(try clear hL3);(try clear hexit3 hnext3 hret3);subst hA;exact decide_eq_true hT0
 ·have hb:decide (((tlen l:Nat):Int) - 0 > 32)=true:=by rw[hA,hX] at hb;exact hb
  simp only[decide_eq_true_eq] at hb
  refine hk _ _ (bE.pure rfl fun ρ=>?_)
  show Value.tuple #[.agg (aI ρ [.W ⟨false,Dg.zero⟩]).toArray, .bool false]= .tuple #[.agg (aI ρ [.W (bR.wV b l)]).toArray, .bool (bR.wOK l)]
  have e1:bR.wV b l=⟨false,Dg.zero⟩:=if_neg (by omega)
  have e2:bR.wOK l=false:=decide_eq_false (by omega)
  rw[e1,e2]
 ·subst hX;(try clear hk);(try clear hL);(try clear hexit hnext hret);(try clear hexit2 hnext2 hret2);(try clear hL2);(try clear hL3);(try clear hexit3 hnext3 hret3);subst hA;cases b <;> rfl
 ·subst hX;(try clear hk);(try clear hL);(try clear hexit hnext hret);(try clear hexit2 hnext2 hret2);(try clear hL2);(try clear hL3);(try clear hexit3 hnext3 hret3);subst hA;cases b
  ·rfl
  ·exact decide_eq_true hT0
 ·have hb:decide (((tlen l:Nat):Int) - 0 > 32)=false:=by rw[hA,hX] at hb;exact hb
  simp only[decide_eq_false_iff_not] at hb
  have h32:tlen l≤32:=by omega
  have hlt:=v7 (iH hr) (show 32*tlen l≤1024 by omega)
  obtain⟨D,hD⟩: ∃ D:Int→Dg, ∀ i,D i=bX (iU (l.take i.toNat)):=⟨_,fun _=>rfl⟩
  obtain⟨T,hT⟩: ∃ T:Int,T=((tlen l:Nat):Int):=⟨_,rfl⟩
  obtain⟨c,hc⟩: ∃ c:Bool,c=(b&&decide (tlen l≠0)):=⟨_,rfl⟩
  refine hL _ _ _ (aQ (un:=⟨false,none⟩) tok Lz aL (fun i:Int=>⟨[(8,⟨[], .c (.s (.int .i64 i))⟩),(6,⟨[], .c (.s (.hw 0 1 0 T))⟩),(7,⟨[], .c (.s (.hp 2 0))⟩),(4,⟨[], .c (.s (.hp 1 0))⟩)],[(0, .vec false (.int .u32) l),(1, .fix true [.W ⟨false,Dg.zero⟩]),(2, .fix true [.W ⟨c,D i⟩])],3⟩)
   (fun i=>0≤i∧i≤T) (fun i=>(T - i).toNat) 0 ?_ ?_ (fun _ i hi=>by have:=hWr i hi;simp only[List.length_cons,List.length_nil] at this;show i < 3;omega) ?_)
  ·exact⟨by omega,by omega⟩
  ·have e1:(A.ite b (A.cmp .gtr (A.isub (X.tlen l) 0) 0) false)=c:=by
    rw[hA,hX,hc]
    show(if b=true then decide (((tlen l:Nat):Int) - 0 > 0) else false)=_
    cases b
    ·rfl
    ·simp only[if_true,Bool.true_and,decide_eq_decide];omega
   have e2:D 0=Dg.zero:=by rw[hD];show bX (iU (l.take 0))=_;rw[List.take_zero];rfl
   have e3:X.tlen l=T:=by rw[hX,hT];rfl
   refine⟨⟨⟨rfl,rfl,fun _=>rfl⟩,⟨rfl,rfl,fun ρ=>by rw[← e3]⟩,⟨rfl,rfl,fun _=>rfl⟩,⟨rfl,rfl,fun _=>rfl⟩,trivial⟩,⟨⟨rfl,rfl,rfl,rfl,fun h=>h⟩,⟨rfl,rfl,fun _=>rfl⟩,⟨rfl,rfl,fun ρ=>?_⟩,trivial⟩,rfl,rfl⟩
   show aI ρ [.W ⟨A.ite b (A.cmp .gtr (A.isub (X.tlen l) 0) 0) false,Dg.zero⟩]=_
   rw[e1,e2]
  intro i hI A2 L2 k2 hA2 hL2 hnext hexit hret
  cbv
  repeat' first | (with_reducible intro hb;cbv) | with_reducible refine And.intro ?_ ?_
  all_goals obtain⟨i0,i1⟩:=hI
  all_goals have hw:=hr.at i.toNat
  all_goals try ((try clear hk);(try clear hL);(try clear hexit hnext hret);(try clear hexit2 hnext2 hret2);(try clear hL2);(try clear hL3);(try clear hexit3 hnext3 hret3);(try subst hA3);(try subst hA2);(try subst hA);(try simp only[vH] at *);(try simp only[zn] at *);(try simp only[aA,aP,aD,Bool.if_false_right,Bool.if_true_left,Bool.decide_eq_true,Bool.and_eq_false_iff,Bool.or_eq_false_iff,IntKind.wrap_i64,IntKind.wrap_u32,IntKind.wrap_u8,cX,Int.zero_add,Int.sub_zero,bM,beq_true,Bool.or_eq_true,Bool.and_eq_true,Bool.not_eq_true',decide_eq_true_eq,decide_eq_false_iff_not,beq_iff_eq,bne_iff_ne,beq_eq_false_iff_ne,ne_eq,if_true,if_false] at *);omega)
  ·have e4:A2.bin .add .i64 i 1=i+1:=by(try clear hk);(try clear hL);(try clear hexit hnext hret);(try clear hexit2 hnext2 hret2);(try clear hL2);(try clear hL3);(try clear hexit3 hnext3 hret3);(try subst hA3);(try subst hA2);(try subst hA);(try simp only[vH] at *);(try simp only[zn] at *);(try simp only[aA,aP,aD,Bool.if_false_right,Bool.if_true_left,Bool.decide_eq_true,Bool.and_eq_false_iff,Bool.or_eq_false_iff,IntKind.wrap_i64,IntKind.wrap_u32,IntKind.wrap_u8,cX,Int.zero_add,Int.sub_zero,bM,beq_true,Bool.or_eq_true,Bool.and_eq_true,Bool.not_eq_true',decide_eq_true_eq,decide_eq_false_iff_not,beq_iff_eq,bne_iff_ne,beq_eq_false_iff_ne,ne_eq,if_true,if_false] at *);omega
   have e5:A2.setD (D i) i (A2.get l (A2.iadd 0 i) 0)=D (i+1):=by
    (try clear hk);(try clear hL);(try clear hexit hnext hret);(try clear hexit2 hnext2 hret2);(try clear hL2);(try clear hL3);(try clear hexit3 hnext3 hret3)
    simp only[aA,aP,decide_eq_true_eq,hA2] at hb
    rw[hD,hD,hA2]
    (try simp only[vH] at *);(try simp only[zn] at *)
    show(bX (iU (l.take i.toNat))).set i.toNat (l.getD (0+i).toNat 0).toNat=bX (iU (l.take (i+1).toNat))
    have ht:=iS l
    rw[Int.zero_add,show(i+1).toNat=i.toNat+1 from by omega,FV l hr i.toNat (by omega) (by omega)]
   refine hnext _ (i+1) ?_ ?_ ⟨⟨⟨rfl,rfl,fun ρ=>congrArg (Value.int .i64) e4⟩,⟨rfl,rfl,fun _=>rfl⟩,⟨rfl,rfl,fun _=>rfl⟩,⟨rfl,rfl,fun _=>rfl⟩,trivial⟩,⟨⟨rfl,rfl,rfl,rfl,fun h=>h⟩,⟨rfl,rfl,fun _=>rfl⟩,⟨rfl,rfl,fun ρ=>congrArg (fun d=>aI ρ [.W ⟨c,d⟩]) e5⟩,trivial⟩,rfl,rfl⟩
   ·(try clear hk);(try clear hL);(try clear hexit hnext hret);(try clear hexit2 hnext2 hret2);(try clear hL2);(try clear hL3);(try clear hexit3 hnext3 hret3);clear e4 e5;subst hA2;(try simp only[vH] at *);(try simp only[zn] at *);(try simp only[aA,aP,aD,Bool.if_false_right,Bool.if_true_left,Bool.decide_eq_true,Bool.and_eq_false_iff,Bool.or_eq_false_iff,IntKind.wrap_i64,IntKind.wrap_u32,IntKind.wrap_u8,cX,Int.zero_add,Int.sub_zero,bM,beq_true,Bool.or_eq_true,Bool.and_eq_true,Bool.not_eq_true',decide_eq_true_eq,decide_eq_false_iff_not,beq_iff_eq,bne_iff_ne,beq_eq_false_iff_ne,ne_eq,if_true,if_false] at *);omega
   ·simp only[aA,aP,decide_eq_true_eq,hA2] at hb
    show(T - (i+1)).toNat < (T - i).toNat;omega
  ·apply hexit
   have hx:i=T:=by(try clear hk);(try clear hL);(try clear hexit hnext hret);(try clear hexit2 hnext2 hret2);(try clear hL2);(try clear hL3);(try clear hexit3 hnext3 hret3);(try subst hA3);(try subst hA2);(try subst hA);(try simp only[vH] at *);(try simp only[zn] at *);(try simp only[aA,aP,aD,Bool.if_false_right,Bool.if_true_left,Bool.decide_eq_true,Bool.and_eq_false_iff,Bool.or_eq_false_iff,IntKind.wrap_i64,IntKind.wrap_u32,IntKind.wrap_u8,cX,Int.zero_add,Int.sub_zero,bM,beq_true,Bool.or_eq_true,Bool.and_eq_true,Bool.not_eq_true',decide_eq_true_eq,decide_eq_false_iff_not,beq_iff_eq,bne_iff_ne,beq_eq_false_iff_ne,ne_eq,if_true,if_false] at *);omega
   cbv
   repeat' first | (with_reducible intro hb;cbv) | with_reducible refine And.intro ?_ ?_
   refine hk _ _ (bE.pure rfl fun ρ=>?_)
   show Value.tuple #[.agg (aI ρ [.W ⟨c,D i⟩]).toArray, .bool true]= .tuple #[.agg (aI ρ [.W (bR.wV b l)]).toArray, .bool (bR.wOK l)]
   have e1:bR.wV b l=⟨c,D i⟩:=by
    show(if tlen l≤32 then tld b (bX (iU l)) else _)=_
    rw[if_pos h32,hc,hD,hx,hT,Int.toNat_natCast,nB]
    by_cases h0:tlen l=0
    ·have:iU l=0:=by have:=iH hr;rw[h0] at this;simpa using this
     rw[this,h0];cases b <;> rfl
    ·rw[ED b l h0 hr h32,decide_eq_true (by exact h0),Bool.and_true]
   have e2:bR.wOK l=true:=decide_eq_true h32
   rw[e1,e2]
def tM2 (A:Alg) (S:SW) (V:SV) (X:SX):List (Nat×bU):=(45,aC [.v, .s (.int .u32)] A (JS A X)) :: ((tM1 A S V X))
theorem OO:COK Try.prog (aN (tM2 aA aV aS bR)):=aB K2 (Lz)
theorem AA (t:Int) (h0:0≤t) (h1:t < 18446744073709551616):rng [IntKind.u32.wrap t,IntKind.u32.wrap (aD .shr .u64 t 32)]=true∧
  ∀ b,bR.wV b [IntKind.u32.wrap t,IntKind.u32.wrap (aD .shr .u64 t 32)]=tld b (bX t.toNat):=by
 rw[gK t h0,IntKind.wrap_u32,IntKind.wrap_u32]
 refine⟨?_,fun b=>?_⟩
 ·simp only[rng,List.all_cons,List.all_nil,Bool.and_true,Bool.and_eq_true,decide_eq_true_eq];omega
 ·show(if tlen _≤32 then tld b (bX (iU _)) else _)=_
  rw[if_pos (Nat.le_trans (iS _) (by simp))]
  congr 2
  simp only[iU];omega
theorem Gu:aJ Try.prog 34 (aC [.v] aA (Ba aA aV)):=by
 refine aH (un:=⟨false,none⟩) tok OO aL (fn:=Try.f34) (by kernel_rfl) (by kernel_rfl) (by kernel_rfl) (by decide +kernel) ?_
 intro w Wr args bs r hg ho hWr A L k hA hL hk
 obtain⟨S,hS⟩: ∃ S,S=aV:=⟨_,rfl⟩
 obtain⟨V,hV⟩: ∃ V,V=aS:=⟨_,rfl⟩
 obtain⟨X,hX⟩: ∃ X,X=bR:=⟨_,rfl⟩
 (try rw[← hS])
 (try rw[← hV])
 (try rw[← hX])
 (try rw[← hA])
 unfold Ba at hg
 split at hg
 rotate_left
 ·cases hg
 simp only[Option.some.injEq] at hg
 subst hg
 rename_i x
 have o1:=ho _ (List.mem_cons_self ..)
 have o2:=ho _ (List.mem_cons_of_mem _ (List.mem_cons_self ..))
 simp only[aA,aP,decide_eq_true_eq] at o1 o2
 cbv
 repeat' first | (with_reducible intro hb;cbv) | with_reducible refine And.intro ?_ ?_
 all_goals subst hS hX hA
 all_goals have hb:decide (x < 0)=_:=hb
 all_goals simp only[decide_eq_true_eq,decide_eq_false_iff_not] at hb
 all_goals have hn:x < 0→aD .sub .u64 0 (IntKind.u64.wrap x)= -x:=fun h=>by simp only[aD,cX];omega
 all_goals have hp:0≤x→IntKind.u64.wrap x=x:=fun h=>by rw[cX];omega
 ·simp[aA,aP]
 ·show rng [IntKind.u32.wrap (aD .sub .u64 0 (IntKind.u64.wrap x)),IntKind.u32.wrap (aD .shr .u64 (aD .sub .u64 0 (IntKind.u64.wrap x)) 32)]=true
  rw[hn hb];exact(AA (-x) (by omega) (by omega)).1
 ·refine hk _ _ (bE.pure rfl fun ρ=>?_)
  show Value.agg (aI ρ [.W (bR.wV (decide (x < 0)) [IntKind.u32.wrap (aD .sub .u64 0 (IntKind.u64.wrap x)),IntKind.u32.wrap (aD .shr .u64 (aD .sub .u64 0 (IntKind.u64.wrap x)) 32)])]).toArray= .agg (aI ρ [.W (tld (decide (x < 0)) (bX x.natAbs))]).toArray
  have e:=(AA (-x) (by omega) (by omega)).2 (decide (x < 0))
  rw[show(-x).toNat=x.natAbs from by omega] at e
  rw[hn hb,e]
 ·simp[aA,aP]
 ·show rng [IntKind.u32.wrap (IntKind.u64.wrap x),IntKind.u32.wrap (aD .shr .u64 (IntKind.u64.wrap x) 32)]=true
  rw[hp (by omega)];exact(AA x (by omega) (by omega)).1
 ·refine hk _ _ (bE.pure rfl fun ρ=>?_)
  show Value.agg (aI ρ [.W (bR.wV (decide (x < 0)) [IntKind.u32.wrap (IntKind.u64.wrap x),IntKind.u32.wrap (aD .shr .u64 (IntKind.u64.wrap x) 32)])]).toArray= .agg (aI ρ [.W (tld (decide (x < 0)) (bX x.natAbs))]).toArray
  have e:=(AA x (by omega) (by omega)).2 (decide (x < 0))
  rw[show x.toNat=x.natAbs from by omega] at e
  rw[hp (by omega),e]
def tM3 (A:Alg) (S:SW) (V:SV) (X:SX):List (Nat×bU):=(34,aC [.v] A (Ba A S)) :: ((tM2 A S V X))
theorem Hr:COK Try.prog (aN (tM3 aA aV aS bR)):=aB Gu (OO)
end Go.Eng
namespace Go.Eng
open Go.Proofs
set_option maxRecDepth 100000
set_option linter.all false
set_option exponentiation.threshold 3000
end Go.Eng
namespace Go.Eng
open Go.Proofs
set_option maxRecDepth 100000
set_option linter.all false
set_option exponentiation.threshold 3000
def tM4 (A:Alg) (S:SW) (V:SV) (X:SX) (M:SM):List (Nat×bU):=((tM3 A S V X))
theorem LA:COK Try.prog (aN (tM4 aA aV aS bR aZ)):=Hr
def tM5 (A:Alg) (S:SW) (V:SV) (X:SX) (M:SM):List (Nat×bU):=((tM4 A S V X M))
theorem LB:COK Try.prog (aN (tM5 aA aV aS bR aZ)):=LA
end Go.Eng
namespace Go.Eng
open Go.Proofs
set_option maxRecDepth 100000
set_option linter.all false
set_option exponentiation.threshold 3000
structure AdI (l m:List Int) (i:Int) (M:List Int) (c:Int):Prop where
 i0:0≤i
 i1:i≤(l.length:Int)+m.length+1
 len:M.length=i.toNat
 w:W32 M
 c0:0≤c
 c1:c≤1
 eq:aM M+2 ^ (32*i.toNat)*c.toNat=aM (l.take i.toNat)+aM (m.take i.toNat)
theorem AdI.init (l m:List Int):AdI l m 0 [] 0:=⟨Int.le_refl 0,by omega,rfl,W32.nil,Int.le_refl 0,by decide,by simp[aM]⟩
def tM6 (A:Alg) (S:SW) (V:SV) (X:SX) (M:SM):List (Nat×bU):=((tM5 A S V X M))
theorem LC:COK Try.prog (aN (tM6 aA aV aS bR aZ)):=LB
end Go.Eng
namespace Go.Eng
open Go.Proofs
set_option maxRecDepth 100000
set_option linter.all false
set_option exponentiation.threshold 3000
set_option exponentiation.threshold 40000
structure SbI (l m:List Int) (i:Int) (M:List Int) (c:Int):Prop where
 i0:0≤i
 i1:i≤(l.length:Int)
 len:M.length=i.toNat
 w:W32 M
 c0:0≤c
 c1:c≤1
 eq:(aM M:Int)+(aM (m.take i.toNat):Nat)=(aM (l.take i.toNat):Nat)+(2 ^ (32*i.toNat):Nat)*c
theorem SbI.init (l m:List Int):SbI l m 0 [] 0:=⟨Int.le_refl 0,by omega,rfl,W32.nil,Int.le_refl 0,by decide,by simp[aM]⟩
def tM7 (A:Alg) (S:SW) (V:SV) (X:SX) (M:SM):List (Nat×bU):=((tM6 A S V X M))
theorem LD:COK Try.prog (aN (tM7 aA aV aS bR aZ)):=LC
def tM8 (A:Alg) (S:SW) (V:SV) (X:SX) (M:SM):List (Nat×bU):=((tM7 A S V X M))
theorem Hs:COK Try.prog (aN (tM8 aA aV aS bR aZ)):=LD
end Go.Eng
namespace Go.Eng
open Go.Proofs
set_option maxRecDepth 100000
set_option linter.all false
set_option exponentiation.threshold 3000
structure MlO (l m:List Int) (i:Int) (R:List Int):Prop where
 i0:0≤i
 i1:i≤(l.length:Int)
 len:R.length=l.length+m.length
 w:W32 R
 eq:aM R=aM (l.take i.toNat)*aM m
theorem W32.rep0 (n:Nat):W32 (List.replicate n 0):=fun v hv=>by
 have:=List.eq_of_mem_replicate hv
 omega
theorem MlO.init (l m:List Int):MlO l m 0 (List.replicate (l.length+m.length) 0):=
 ⟨Int.le_refl 0,by omega,by simp,W32.rep0 _,by rw[kQ];simp[aM]⟩
def tM9 (A:Alg) (S:SW) (V:SV) (X:SX) (M:SM):List (Nat×bU):=((tM8 A S V X M))
theorem LE:COK Try.prog (aN (tM9 aA aV aS bR aZ)):=Hs
end Go.Eng

