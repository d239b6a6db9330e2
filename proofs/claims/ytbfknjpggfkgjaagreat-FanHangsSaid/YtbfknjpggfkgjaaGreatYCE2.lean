
import Derived.Test.YtbfknjpggfkgjaaGreatYCE1
set_option linter.all false
set_option exponentiation.threshold 3000
set_option maxRecDepth 100000
namespace Go.Eng
open Go.Proofs
def gOr (A:Alg) (C:SC):List CV→List Blk→Option LR
 | [.s (.hs 0)],[.vec false (.int .i64) l]=>some ⟨[A.cmp .lss (A.len l) 1000000], .c (.s (.int .i64 (C.nz l))),[]⟩
 | _,_=>none
theorem ao3: ∀ (l:List Int),(∀ j,j < l.length→l.getD j 0=0)→Wt l=0
 | [],_=>rfl
 | x :: r,h=>by
  have h0:x=0:=by simpa using h 0 (by simp)
  simp only[Wt,if_pos h0]
  exact ao3 r fun j hj=>by simpa using h (j+1) (by simpa using hj)
theorem aqM: ∀ (l:List Int) (i:Nat),i < l.length→(∀ j,j < i→l.getD j 0=0)→l.getD i 0≠0→Wt l=l.getD i 0
 | [],_,h,_,_=>by simp at h
 | x :: r,0,_,_,hn=>by
  have hn:x≠0:=by simpa using hn
  simp[Wt,if_neg hn]
 | x :: r,i+1,hi,h,hn=>by
  have h0:x=0:=by simpa using h 0 (by omega)
  simp only[Wt,if_pos h0]
  rw[aqM r i (by simpa using hi) (fun j hj=>by simpa using h (j+1) (by omega)) (by simpa using hn)]
  simp
theorem asD:aJ Tryz.prog 87 (aC [.s (.int .i64)] aA (gOr aA UT)):=by
 refine aH (un:=⟨false,none⟩) tok aqI aL (fn:=Tryz.f87) ?_
 intro w Wr args bs r hg ho hWr A L k hA hL hk
 obtain⟨C,hC⟩:=exE UT
 try rw[← hC]
 try rw[← hA]
 unfold gOr at hg
 split at hg <;> cases hg
 rename_i l
 change List Int at l
 have hlen:=ho _ (List.mem_cons_self ..)
 clear ho
 simp only[aA,aP,decide_eq_true_eq] at hlen
 cbv
 refine hL _ _ _ (aQ (un:=⟨false,none⟩) tok aqI aL (fun i:Int=>⟨[(8,⟨[], .c (.s (.int .i64 i))⟩),(7,⟨[], .c (.s (.int .i64 (A.len l)))⟩),(6,⟨[], .c (.s (.hs 0))⟩),(3,⟨[], .c (.s (.lit .i64 0))⟩)],[(0, .vec false (.int .i64) l)],1⟩)
  (fun i=>0≤i∧i≤zn l.length∧ ∀ j,j < i.toNat→l.getD j 0=0) (fun i=>(zn l.length - i).toNat) 0 ?_ ?_ (fun _ i hi=>hWr i hi) ?_)
 ·exact⟨by omega,by simp only[zn];omega,fun j hj=>by simp at hj⟩
 ·exact⟨⟨⟨rfl,rfl,fun _=>rfl⟩,⟨rfl,rfl,fun _=>rfl⟩,⟨rfl,rfl,fun _=>rfl⟩,⟨rfl,rfl,fun _=>rfl⟩,trivial⟩,⟨⟨rfl,rfl,rfl,rfl,fun h=>h⟩,trivial⟩,rfl,rfl⟩
 intro i hI A2 L2 k2 hA2 hL2 hnext hexit hret
 obtain⟨i0,i1,i2⟩:=hI
 cbv
 repeat' with_reducible first | (intro hb;cbv) | refine UM ?_ ?_
 all_goals try (subst hC;(try clear hk);(try clear hL);(try clear hexit hnext hret);(try clear hexit2 hnext2 hret2);(try clear hL2);(try clear hL3);(try clear hexit3 hnext3 hret3);(try subst hA3);(try subst hA2);(try subst hA);(try simp only[vH] at *);(try simp only[zn] at *);(try simp only[aA,aP,aD,Bool.if_false_right,Bool.if_true_left,Bool.decide_eq_true,Bool.and_eq_false_iff,Bool.or_eq_false_iff,IntKind.wrap_i64,IntKind.wrap_u32,IntKind.wrap_u8,cX,Int.zero_add,Int.sub_zero,bM,beq_true,Bool.or_eq_true,Bool.and_eq_true,Bool.not_eq_true',decide_eq_true_eq,decide_eq_false_iff_not,beq_iff_eq,bne_iff_ne,beq_eq_false_iff_ne,ne_eq,if_true,if_false] at *);omega)
 ·have h1:l.getD i.toNat 0≠0:=by rw[hA2] at hb;simpa [aA,aP] using hb
  rename_i hb1
  have h2:i.toNat < l.length:=by(try clear hk);(try clear hL);(try clear hexit hnext hret);(try clear hexit2 hnext2 hret2);(try clear hL2);(try clear hL3);(try clear hexit3 hnext3 hret3);(try subst hA3);(try subst hA2);(try subst hA);(try simp only[vH] at *);(try simp only[zn] at *);(try simp only[aA,aP,aD,Bool.if_false_right,Bool.if_true_left,Bool.decide_eq_true,Bool.and_eq_false_iff,Bool.or_eq_false_iff,IntKind.wrap_i64,IntKind.wrap_u32,IntKind.wrap_u8,cX,Int.zero_add,Int.sub_zero,bM,beq_true,Bool.or_eq_true,Bool.and_eq_true,Bool.not_eq_true',decide_eq_true_eq,decide_eq_false_iff_not,beq_iff_eq,bne_iff_ne,beq_eq_false_iff_ne,ne_eq,if_true,if_false] at *);omega
  apply hret
  cbv
  refine hk _ _ (bE.pure rfl fun ρ=>?_)
  subst hC
  show Value.int .i64 (A2.get l i 0)= .int .i64 (Wt l)
  rw[aqM l i.toNat h2 i2 h1,hA2];rfl
 ·have h1:l.getD i.toNat 0=0:=by rw[hA2] at hb;simpa [aA,aP] using hb
  rename_i hb1
  have h2:i.toNat < l.length:=by(try clear hk);(try clear hL);(try clear hexit hnext hret);(try clear hexit2 hnext2 hret2);(try clear hL2);(try clear hL3);(try clear hexit3 hnext3 hret3);(try subst hA3);(try subst hA2);(try subst hA);(try simp only[vH] at *);(try simp only[zn] at *);(try simp only[aA,aP,aD,Bool.if_false_right,Bool.if_true_left,Bool.decide_eq_true,Bool.and_eq_false_iff,Bool.or_eq_false_iff,IntKind.wrap_i64,IntKind.wrap_u32,IntKind.wrap_u8,cX,Int.zero_add,Int.sub_zero,bM,beq_true,Bool.or_eq_true,Bool.and_eq_true,Bool.not_eq_true',decide_eq_true_eq,decide_eq_false_iff_not,beq_iff_eq,bne_iff_ne,beq_eq_false_iff_ne,ne_eq,if_true,if_false] at *);omega
  have e4:A2.bin .add .i64 i 1=i+1:=by(try clear hk);(try clear hL);(try clear hexit hnext hret);(try clear hexit2 hnext2 hret2);(try clear hL2);(try clear hL3);(try clear hexit3 hnext3 hret3);(try subst hA3);(try subst hA2);(try subst hA);(try simp only[vH] at *);(try simp only[zn] at *);(try simp only[aA,aP,aD,Bool.if_false_right,Bool.if_true_left,Bool.decide_eq_true,Bool.and_eq_false_iff,Bool.or_eq_false_iff,IntKind.wrap_i64,IntKind.wrap_u32,IntKind.wrap_u8,cX,Int.zero_add,Int.sub_zero,bM,beq_true,Bool.or_eq_true,Bool.and_eq_true,Bool.not_eq_true',decide_eq_true_eq,decide_eq_false_iff_not,beq_iff_eq,bne_iff_ne,beq_eq_false_iff_ne,ne_eq,if_true,if_false] at *);omega
  refine hnext _ (i+1) ⟨by omega,?_,?_⟩ ?_ ⟨⟨⟨rfl,rfl,fun ρ=>congrArg (Value.int .i64) e4⟩,⟨rfl,rfl,fun _=>rfl⟩,⟨rfl,rfl,fun _=>rfl⟩,⟨rfl,rfl,fun _=>rfl⟩,trivial⟩,⟨⟨rfl,rfl,rfl,rfl,fun h=>h⟩,trivial⟩,rfl,rfl⟩
  ·simp only[zn];omega
  ·intro j hj
   by_cases hji:j=i.toNat
   ·rw[hji];exact h1
   ·exact i2 j (by omega)
  ·show(zn l.length - (i+1)).toNat < (zn l.length - i).toNat
   simp only[zn];omega
 ·have h2:i.toNat=l.length:=by(try clear hk);(try clear hL);(try clear hexit hnext hret);(try clear hexit2 hnext2 hret2);(try clear hL2);(try clear hL3);(try clear hexit3 hnext3 hret3);(try subst hA3);(try subst hA2);(try subst hA);(try simp only[vH] at *);(try simp only[zn] at *);(try simp only[aA,aP,aD,Bool.if_false_right,Bool.if_true_left,Bool.decide_eq_true,Bool.and_eq_false_iff,Bool.or_eq_false_iff,IntKind.wrap_i64,IntKind.wrap_u32,IntKind.wrap_u8,cX,Int.zero_add,Int.sub_zero,bM,beq_true,Bool.or_eq_true,Bool.and_eq_true,Bool.not_eq_true',decide_eq_true_eq,decide_eq_false_iff_not,beq_iff_eq,bne_iff_ne,beq_eq_false_iff_ne,ne_eq,if_true,if_false] at *);omega
  apply hexit
  cbv
  refine hk _ _ (bE.pure rfl fun ρ=>?_)
  subst hC
  show Value.int .i64 0= .int .i64 (Wt l)
  rw[ao3 l (by rw[← h2];exact i2)]
end Go.Eng
