
import Derived.Test.YtbfknjpggfkgjaaGreatYCMA
import Derived.Test.YtbfknjpggfkgjaaGreatYSpecMA
import Derived.Test.YtbfknjpggfkgjaaGreatSpecFA
import Derived.Test.YtbfknjpggfkgjaaGreatYCMB
set_option linter.all false
set_option exponentiation.threshold 3000
set_option maxRecDepth 100000
set_option maxHeartbeats 2000000
namespace Go.Eng
open Go.Proofs
def PO (F:SF):List CV→List Blk→Option LR
 | [.s (.int .i64 a), .s (.int .i64 b)],[]=>some ⟨[F.b62 a,F.b62 b], .c (.s (.int .i64 (F.com a b))),[]⟩
 | _,_=>none
theorem iL {n:Int} :aO.b62 n=true↔ -4611686018427387904≤n∧n≤4611686018427387904:=by
 show(decide (-4611686018427387904≤n)&&decide (n≤4611686018427387904))=true↔_
 rw[Bool.and_eq_true,decide_eq_true_eq,decide_eq_true_eq]
structure CoI (a0 b0 a b:Int):Prop where
 a1:0≤a
 a2:a≤4611686018427387904
 b1:0≤b
 b2:b≤4611686018427387904
 eq:Nat.gcd a.toNat b.toNat=Nat.gcd a0.natAbs b0.natAbs
structure MB (A:Alg) (a0 b0 a b:Int):Prop where
 nx:CoI a0 b0 b (A.bin .rem .i64 a b)
 ms:(A.bin .rem .i64 a b).toNat < b.toNat
theorem IS {a0 b0 a b:Int} (hI:CoI a0 b0 a b) (A:Alg) (hA:A=aA) (hb:A.cmp .neq b 0=true):MB A a0 b0 a b:=by
 subst hA
 have hb:(b != 0)=true:=hb
 simp only[bne_iff_ne,ne_eq] at hb
 obtain⟨a1,a2,b1,b2,heq⟩:=hI
 have e:aA.bin .rem .i64 a b=((a.toNat % b.toNat:Nat):Int):=by
  show a.tmod b=_
  rw[Int.tmod_eq_emod_of_nonneg a1,Int.natCast_emod,Int.toNat_of_nonneg a1,Int.toNat_of_nonneg b1]
 have hlt:=Nat.mod_lt a.toNat (show 0 < b.toNat by omega)
 refine⟨?_,by rw[e,Int.toNat_natCast];exact hlt⟩
 rw[e]
 refine⟨b1,b2,by omega,by omega,?_⟩
 rw[Int.toNat_natCast, ← heq,Nat.gcd_comm b.toNat, ← Nat.gcd_rec,Nat.gcd_comm]
theorem M4 {a0 b0 a b:Int} (hI:CoI a0 b0 a b) (A:Alg) (hA:A=aA) (F:SF) (hF:F=aO) (hb:A.cmp .neq b 0=false):a=F.com a0 b0:=by
 subst hA hF
 have hb:(b != 0)=false:=hb
 simp only[bne_eq_false_iff_eq] at hb
 obtain⟨a1,a2,b1,b2,heq⟩:=hI
 rw[hb] at heq
 show a=((Nat.gcd a0.natAbs b0.natAbs:Nat):Int)
 rw[← heq]
 show a=((Nat.gcd a.toNat 0:Nat):Int)
 rw[Nat.gcd_zero_right];omega
theorem HV {a:Int} (h1: -4611686018427387904≤a) (h2:a≤4611686018427387904):aA.mx a (aA.bin .sub .i64 0 a)=(a.natAbs:Int):=by
 have e:aA.bin .sub .i64 0 a= -a:=by show aD .sub .i64 0 a= -a;simp only[aD,IntKind.wrap_i64];omega
 rw[e]
 show(if -a > a then -a else a)=_
 split <;> omega
theorem IR {a b:Int} (ha: -4611686018427387904≤a∧a≤4611686018427387904) (hb: -4611686018427387904≤b∧b≤4611686018427387904) (A:Alg) (hA:A=aA):CoI a b (A.mx a (A.bin .sub .i64 0 a)) (A.mx b (A.bin .sub .i64 0 b)):=by
 subst hA
 rw[HV ha.1 ha.2,HV hb.1 hb.2]
 exact⟨by omega,by omega,by omega,by omega,by rw[Int.toNat_natCast,Int.toNat_natCast]⟩
def tF0 (A:Alg) (S:SW) (V:SV) (X:SX) (M:SM):List (Nat×bU):=((tM3 A S V X))
theorem Lr:COK Tryz.prog (aN (tF0 aA aV aS bR aZ)):=Hr
theorem Km:aJ Tryz.prog 191 (aC [.v, .v] aA (PO aO)):=by
 refine aH (un:=⟨false,some [0,1,4,14]⟩) tok Lr aL (fn:=Tryz.f191) ?_
 intro w Wr args bs r hg ho hWr A L k hA hL hk
 obtain⟨F,hF⟩:=exE aO
 obtain⟨M,hM⟩:=exE aZ
 obtain⟨S,hS⟩:=exE aV
 obtain⟨V,hV⟩:=exE aS
 obtain⟨X,hX⟩:=exE bR
 try rw[← hF]
 try rw[← hM]
 try rw[← hS]
 try rw[← hV]
 try rw[← hX]
 try rw[← hA]
 unfold PO at hg
 split at hg <;> cases hg
 rename_i a b
 have ha:=iL.1 ((aG ho).1)
 have hb:=iL.1 ((aG (aG ho).2).1)
 clear ho
 have i0:=IR ha hb A hA
 cbv
 refine hL _ _ _ (aQ (un:=⟨false,some [0,1,4,14]⟩) tok Lr aL (fun p:Int×Int=>⟨[(1,⟨[], .c (.s (.int .i64 p.2))⟩),(0,⟨[], .c (.s (.int .i64 p.1))⟩)],[],0⟩)
  (fun p=>CoI a b p.1 p.2) (fun p=>p.2.toNat) (_,_) i0 ?_ (fun _ i hi=>by have:=hWr i hi;simp at this) ?_)
 ·exact⟨⟨⟨rfl,rfl,fun _=>rfl⟩,⟨rfl,rfl,fun _=>rfl⟩,trivial⟩,trivial,rfl,rfl⟩
 clear i0
 rintro⟨x,y⟩ hI A2 L2 k2 hA2 hL2 hnext hexit hret
 have st:=fun hb=>IS hI A2 hA2 hb
 have en:=fun hb=>M4 hI A hA F hF (by rw[hA, ← hA2];exact hb)
 clear hI
 rw[← hA2, ← hS, ← hV, ← hX, ← hM]
 cbv
 repeat' with_reducible first | (intro hb;cbv) | refine UM ?_ ?_
 all_goals first | exact hb | skip
 ·refine hnext _ (_,_) (st hb).nx (st hb).ms ?_
  exact⟨⟨⟨rfl,rfl,fun _=>rfl⟩,⟨rfl,rfl,fun _=>rfl⟩,trivial⟩,trivial,rfl,rfl⟩
 ·apply hexit
  have em:=en hb
  clear hexit hnext hret st en hb
  cbv
  refine hk _ _ (bE.pure rfl fun ρ=>?_)
  subst hF
  exact B2 em
def tF1 (A:Alg) (S:SW) (V:SV) (X:SX) (M:SM) (F:SF):List (Nat×bU):=(191,aC [.v, .v] A (PO F)) :: ((tF0 A S V X M))
theorem Oz:COK Tryz.prog (aN (tF1 aA aV aS bR aZ aO)):=aB Km (Lr)
def yC (F:SF) (S:SW):List CV→List Blk→Option LR
 | [.s (.int .i64 n)],[]=>some ⟨[F.b62 n], .c (.g [.W (S.from64 n)]),[]⟩
 | _,_=>none
theorem JU (a:Int) (h0:0≤a) (h1:a < 9223372036854775808):aD .and .i64 a 4294967295=a % 4294967296:=by
 have e1:=cE 64 a h0 (by omega)
 have e2:=cE 64 4294967295 (by omega) (by omega)
 have h4:a.toNat&&& (4294967295:Int).toNat=a.toNat % 2 ^ 32:=Nat.and_two_pow_sub_one_eq_mod _ 32
 show IntKind.i64.wrap ((BitVec.ofInt 64 a&&& BitVec.ofInt 64 4294967295).toNat:Int)=_
 rw[BitVec.toNat_and,e1,e2,h4,IntKind.wrap_i64]
 omega
structure WoF (A:Alg) (S:SW) (n m:Int):Prop where
 o1:A.cmp .leq 0 (A.wrap .u32 (A.bin .and .i64 m 4294967295))=true
 o2:A.cmp .lss (A.wrap .u32 (A.bin .and .i64 m 4294967295)) 4294967296=true
 o3:A.cmp .leq 0 (A.wrap .u32 (A.bin .shr .i64 m 32))=true
 o4:A.cmp .lss (A.wrap .u32 (A.bin .shr .i64 m 32)) 4294967296=true
 eq:(⟨decide (n < 0),A.setD (A.setD A.zD 0 (A.wrap .u32 (A.bin .and .i64 m 4294967295))) 1 (A.wrap .u32 (A.bin .shr .i64 m 32))⟩:Wd)=S.from64 n
theorem Sh {n m:Int} (hn: -4611686018427387904≤n∧n≤4611686018427387904) (hm:m=(n.natAbs:Int)) (A:Alg) (hA:A=aA) (S:SW) (hS:S=aV):WoF A S n m:=by
 subst hA hS
 have e1:aA.wrap .u32 (aA.bin .and .i64 m 4294967295)=((n.natAbs % 2 ^ 32:Nat):Int):=by
  show IntKind.u32.wrap (aD .and .i64 m 4294967295)=_
  rw[JU m (by omega) (by omega),IntKind.wrap_u32];omega
 have e2:aA.wrap .u32 (aA.bin .shr .i64 m 32)=((n.natAbs / 2 ^ 32:Nat):Int):=by
  show IntKind.u32.wrap (m.fdiv (2 ^ min (32:Int).toNat 64))=_
  rw[Int.fdiv_eq_ediv_of_nonneg _ (by decide),IntKind.wrap_u32]
  have:((2:Int) ^ min (32:Int).toNat 64)=4294967296:=rfl
  rw[this];omega
 exact {
  o1:=by rw[e1];exact bJ _ rfl _ _ (by omega)
  o2:=by rw[e1];exact bH _ rfl _ _ (by omega)
  o3:=by rw[e2];exact bJ _ rfl _ _ (by omega)
  o4:=by rw[e2];exact bH _ rfl _ _ (by omega)
  eq:=by
   rw[e1,e2]
   have h2:=wQ (n.natAbs % 2 ^ 32) (n.natAbs / 2 ^ 32) (by omega) (by omega)
   have hd:aA.setD (aA.setD aA.zD 0 ((n.natAbs % 2 ^ 32:Nat):Int)) 1 ((n.natAbs / 2 ^ 32:Nat):Int)=bX n.natAbs:=Dg.ext' (by
    show((Dg.zero.set 0 ((n.natAbs % 2 ^ 32:Nat):Int).toNat).set 1 ((n.natAbs / 2 ^ 32:Nat):Int).toNat).n=n.natAbs % 2 ^ 1024
    rw[Int.toNat_natCast,Int.toNat_natCast,h2,Nat.mod_eq_of_lt (a:=n.natAbs) (b:=2 ^ 1024) (Nat.lt_of_lt_of_le (by omega:n.natAbs < 2 ^ 63) (Nat.pow_le_pow_right (by decide) (by decide)))]
    omega)
   rw[hd]
   show(⟨decide (n < 0),bX n.natAbs⟩:Wd)=tld (decide (n < 0)) (bX n.natAbs)
   unfold tld
   have h3:(bX n.natAbs).n=n.natAbs:=Nat.mod_eq_of_lt (Nat.lt_of_lt_of_le (by omega:n.natAbs < 2 ^ 63) (Nat.pow_le_pow_right (by decide) (by decide)))
   rw[h3]
   by_cases h:n < 0
   ·rw[decide_eq_true h,decide_eq_true (show n.natAbs≠0 by omega)];rfl
   ·rw[decide_eq_false h];rfl }
theorem N0:aJ Tryz.prog 192 (aC [.v] aA (yC aO aV)):=by
 refine aH (un:=⟨false,some [0,2,3,5]⟩) tok Oz aL (fn:=Tryz.f192) ?_
 intro w Wr args bs r hg ho hWr A L k hA hL hk
 obtain⟨F,hF⟩:=exE aO
 obtain⟨M,hM⟩:=exE aZ
 obtain⟨S,hS⟩:=exE aV
 obtain⟨V,hV⟩:=exE aS
 obtain⟨X,hX⟩:=exE bR
 try rw[← hF]
 try rw[← hM]
 try rw[← hS]
 try rw[← hV]
 try rw[← hX]
 try rw[← hA]
 unfold yC at hg
 split at hg <;> cases hg
 rename_i n
 have hn:=iL.1 ((aG ho).1)
 clear ho
 have f1:A.cmp .lss n 0=true→WoF A S n (A.bin .sub .i64 0 n)∧decide (n < 0)=true:=fun h=>by
  have hb:n < 0:=by subst hA;exact of_decide_eq_true h
  have e:A.bin .sub .i64 0 n=(n.natAbs:Int):=by subst hA;show aD .sub .i64 0 n=_;simp only[aD,IntKind.wrap_i64];omega
  rw[e]
  exact⟨Sh hn rfl A hA S hS,decide_eq_true hb⟩
 have f0:A.cmp .lss n 0=false→WoF A S n n∧decide (n < 0)=false:=fun h=>by
  have hb: ¬ n < 0:=by subst hA;exact of_decide_eq_false h
  exact⟨Sh hn (by omega) A hA S hS,decide_eq_false hb⟩
 cbv
 repeat' with_reducible first | (intro hb;cbv) | refine UM ?_ ?_
 all_goals first | exact(f1 (by assumption)).1.o1 | exact(f1 (by assumption)).1.o2 | exact(f1 (by assumption)).1.o3 | exact(f1 (by assumption)).1.o4 | exact(f0 (by assumption)).1.o1 | exact(f0 (by assumption)).1.o2 | exact(f0 (by assumption)).1.o3 | exact(f0 (by assumption)).1.o4 | skip
 ·(intro hb)
  have e:=f1 hb
  cbv
  repeat' with_reducible first | (intro hb;cbv) | refine UM ?_ ?_
  all_goals first | exact e.1.o1 | exact e.1.o2 | exact e.1.o3 | exact e.1.o4 | skip
  refine hk _ _ (bE.pure rfl fun ρ=>?_)
  have ee:=e.1.eq
  rw[e.2] at ee
  subst hA hS
  exact H5 ee
 ·(intro hb)
  have e:=f0 hb
  cbv
  repeat' with_reducible first | (intro hb;cbv) | refine UM ?_ ?_
  all_goals first | exact e.1.o1 | exact e.1.o2 | exact e.1.o3 | exact e.1.o4 | skip
  refine hk _ _ (bE.pure rfl fun ρ=>?_)
  have ee:=e.1.eq
  rw[e.2] at ee
  subst hA hS
  exact H5 ee
def tF2 (A:Alg) (S:SW) (V:SV) (X:SX) (M:SM) (F:SF):List (Nat×bU):=(192,aC [.v] A (yC F S)) :: ((tF1 A S V X M F))
theorem OA:COK Tryz.prog (aN (tF2 aA aV aS bR aZ aO)):=aB N0 (Oz)
def JB (A:Alg) (F:SF):List CV→List Blk→Option LR
 | [.s (.int .i64 n), .s (.int .i64 d)],[]=>some ⟨[F.b62 n,F.b62 d,A.cmp .neq d 0], .c (.g [.R (F.made n d)]),[]⟩
 | _,_=>none
structure MdF (A:Alg) (S:SW) (F:SF) (n d n' d':Int):Prop where
 o1:F.b62 n'=true
 o2:F.b62 d'=true
 o3:A.cmp .neq (F.com n' d') 0=true
 o4:F.b62 (A.bin .quo .i64 n' (F.com n' d'))=true
 o5:F.b62 (A.bin .quo .i64 d' (F.com n' d'))=true
 eq:(⟨S.from64 (A.bin .quo .i64 n' (F.com n' d')),S.from64 (A.bin .quo .i64 d' (F.com n' d'))⟩:Rt)=F.made n d
theorem RJ {n d n' d':Int} (hn: -4611686018427387904≤n'∧n'≤4611686018427387904) (hd:d'≤4611686018427387904) (h0:0 < d') (hq:Rat.divInt n d=Rat.divInt n' d') (A:Alg) (hA:A=aA) (S:SW) (hS:S=aV) (F:SF) (hF:F=aO):MdF A S F n d n' d':=by
 subst hA hS hF
 obtain⟨G,hG⟩: ∃ G:Nat,G=Nat.gcd n'.natAbs d'.natAbs:=⟨_,rfl⟩
 have ec:aO.com n' d'=(G:Int):=by rw[hG];rfl
 have hG0:0 < G:=by rw[hG];exact Nat.gcd_pos_of_pos_right _ (by omega)
 have dn:(G:Int) ∣n':=by rw[hG];exact Int.ofNat_dvd_left.2 (Nat.gcd_dvd_left _ _)
 have dd:(G:Int) ∣d':=by rw[hG];exact Int.ofNat_dvd_left.2 (Nat.gcd_dvd_right _ _)
 have quo: ∀ z:Int, -4611686018427387904≤z∧z≤4611686018427387904→(G:Int) ∣z→aA.bin .quo .i64 z (G:Int)=z / (G:Int)∧ -4611686018427387904≤z / (G:Int)∧z / (G:Int)≤4611686018427387904:=fun z hz hdv=>by
  obtain⟨c,rfl⟩:=hdv
  have h1:((G:Int)*c) / (G:Int)=c:=Int.mul_ediv_cancel_left _ (by omega)
  have h2:((G:Int)*c).tdiv (G:Int)=c:=Int.mul_tdiv_cancel_left _ (by omega)
  have hb:c.natAbs≤((G:Int)*c).natAbs:=by rw[Int.natAbs_mul];exact Nat.le_mul_of_pos_left _ (by omega)
  have hc: -4611686018427387904≤c∧c≤4611686018427387904:=by omega
  rw[h1]
  refine⟨?_,hc⟩
  show IntKind.i64.wrap (((G:Int)*c).tdiv (G:Int))=c
  rw[h2,IntKind.wrap_i64];omega
 obtain⟨qn,bn1,bn2⟩:=quo n' hn dn
 obtain⟨qd,bd1,bd2⟩:=quo d' ⟨by omega,hd⟩ dd
 have h2:(Rat.divInt n' d').num=n' / (G:Int):=by
  rw[Rat.num_divInt,Int.sign_eq_one_of_pos h0,Int.one_mul,Int.gcd_comm];rw[hG];rfl
 have h3:((Rat.divInt n' d').den:Int)=d' / (G:Int):=by
  rw[Rat.den_divInt,if_neg (by omega),Int.gcd_comm]
  show((d'.natAbs / Nat.gcd n'.natAbs d'.natAbs:Nat):Int)=_
  rw[← hG,Int.natCast_ediv]
  congr 1;omega
 exact {
  o1:=iL.2 hn
  o2:=iL.2 ⟨by omega,hd⟩
  o3:=by rw[ec];show((G:Int) != 0)=true;rw[bne_iff_ne];omega
  o4:=by rw[ec,qn];exact iL.2 ⟨bn1,bn2⟩
  o5:=by rw[ec,qd];exact iL.2 ⟨bd1,bd2⟩
  eq:=by
   rw[ec,qn,qd]
   show _=ofQ (Rat.divInt n d)
   rw[hq]
   unfold ofQ
   rw[h2,h3]
   rfl }
theorem Gb:aJ Tryz.prog 158 (aC [.v, .v] aA (JB aA aO)):=by
 refine aH (un:=⟨false,some [0,1,4,5,7]⟩) tok OA aL (fn:=Tryz.f158) ?_
 intro w Wr args bs r hg ho hWr A L k hA hL hk
 obtain⟨F,hF⟩:=exE aO
 obtain⟨M,hM⟩:=exE aZ
 obtain⟨S,hS⟩:=exE aV
 obtain⟨V,hV⟩:=exE aS
 obtain⟨X,hX⟩:=exE bR
 try rw[← hF]
 try rw[← hM]
 try rw[← hS]
 try rw[← hV]
 try rw[← hX]
 try rw[← hA]
 unfold JB at hg
 split at hg <;> cases hg
 rename_i n d
 have hn:=iL.1 ((aG ho).1)
 have hd:=iL.1 ((aG (aG ho).2).1)
 have h0:d≠0:=by
  have h:(d != 0)=true:=(aG (aG (aG ho).2).2).1
  simpa using h
 clear ho
 have en:A.bin .sub .i64 0 n= -n:=by subst hA;show aD .sub .i64 0 n=_;simp only[aD,IntKind.wrap_i64];omega
 have ed:A.bin .sub .i64 0 d= -d:=by subst hA;show aD .sub .i64 0 d=_;simp only[aD,IntKind.wrap_i64];omega
 have f1:A.cmp .lss d 0=true→MdF A S F n d (A.bin .sub .i64 0 n) (A.bin .sub .i64 0 d):=fun h=>by
  have hb:d < 0:=by subst hA;exact of_decide_eq_true h
  rw[en,ed]
  exact RJ ⟨by omega,by omega⟩ (by omega) (by omega) (Rat.neg_divInt_neg n d).symm A hA S hS F hF
 have f0:A.cmp .lss d 0=false→MdF A S F n d n d:=fun h=>by
  have hb: ¬ d < 0:=by subst hA;exact of_decide_eq_false h
  exact RJ hn hd.2 (by omega) rfl A hA S hS F hF
 clear en ed
 cbv
 repeat' with_reducible first | (intro hb;cbv) | refine UM ?_ ?_
 all_goals first | exact(f1 (by assumption)).o1 | exact(f1 (by assumption)).o2 | exact(f1 (by assumption)).o3 | exact(f1 (by assumption)).o4 | exact(f1 (by assumption)).o5 | exact(f0 (by assumption)).o1 | exact(f0 (by assumption)).o2 | exact(f0 (by assumption)).o3 | exact(f0 (by assumption)).o4 | exact(f0 (by assumption)).o5 | skip
 ·have e:=(f1 hb).eq
  refine hk _ _ (bE.pure rfl fun ρ=>?_)
  subst hF
  exact yR e
 ·have e:=(f0 hb).eq
  refine hk _ _ (bE.pure rfl fun ρ=>?_)
  subst hF
  exact yR e
def tF3 (A:Alg) (S:SW) (V:SV) (X:SX) (M:SM) (F:SF):List (Nat×bU):=(158,aC [.v, .v] A (JB A F)) :: ((tF2 A S V X M F))
theorem OB:COK Tryz.prog (aN (tF3 aA aV aS bR aZ aO)):=aB Gb (OA)
def PX (A:Alg):List CV→List Blk→Option LR
 | [.s (.int .i64 _)],[]=>some ⟨[], .c (.s (.bool false)),[]⟩
 | _,_=>none
def Jn (F:SF):List CV→List Blk→Option LR
 | [.s (.int .i64 a), .s (.int .i64 b)],[]=>some ⟨[], .c (.s (.int .i64 (F.cmpI a b))),[]⟩
 | _,_=>none
theorem Kr:aJ Tryz.prog 215 (aC [.v] aA (PX aA)):=by
 refine aH (un:=⟨false,none⟩) tok OB aL (fn:=Tryz.f215) ?_
 intro w Wr args bs r hg ho hWr A L k hA hL hk
 obtain⟨F,hF⟩:=exE aO
 obtain⟨M,hM⟩:=exE aZ
 obtain⟨S,hS⟩:=exE aV
 obtain⟨V,hV⟩:=exE aS
 obtain⟨X,hX⟩:=exE bR
 try rw[← hF]
 try rw[← hM]
 try rw[← hS]
 try rw[← hV]
 try rw[← hX]
 try rw[← hA]
 unfold PX at hg
 split at hg <;> cases hg
 rename_i n
 cbv
 refine hk _ _ (bE.pure rfl fun ρ=>?_)
 refine yQ ?_
 subst hA
 show(n != n)=false
 simp
def tF4 (A:Alg) (S:SW) (V:SV) (X:SX) (M:SM) (F:SF):List (Nat×bU):=(215,aC [.v] A (PX A)) :: ((tF3 A S V X M F))
theorem OC:COK Tryz.prog (aN (tF4 aA aV aS bR aZ aO)):=aB Kr (OB)
theorem Ga:aJ Tryz.prog 201 (aC [.v, .v] aA (Jn aO)):=by
 refine aH (un:=⟨false,some [0,1,4,5,6,11,13,16,19]⟩) tok OC aL (fn:=Tryz.f201) ?_
 intro w Wr args bs r hg ho hWr A L k hA hL hk
 obtain⟨F,hF⟩:=exE aO
 obtain⟨M,hM⟩:=exE aZ
 obtain⟨S,hS⟩:=exE aV
 obtain⟨V,hV⟩:=exE aS
 obtain⟨X,hX⟩:=exE bR
 try rw[← hF]
 try rw[← hM]
 try rw[← hS]
 try rw[← hV]
 try rw[← hX]
 try rw[← hA]
 unfold Jn at hg
 split at hg <;> cases hg
 rename_i a b
 cbv
 repeat' with_reducible first | (intro hb;cbv) | refine UM ?_ ?_
 ·exfalso
  cases hb
 ·exfalso
  cases hb
 ·have h:a < b:=by subst hA;exact of_decide_eq_true hb
  refine hk _ _ (bE.pure rfl fun ρ=>?_)
  refine Ak ?_
  show _=sgn a b
  unfold sgn
  rw[if_pos h]
 ·rename_i hb0
  have h0: ¬ a < b:=by subst hA;exact of_decide_eq_false hb0
  have h:a > b:=by subst hA;exact of_decide_eq_true hb
  refine hk _ _ (bE.pure rfl fun ρ=>?_)
  refine Ak ?_
  show _=sgn a b
  unfold sgn
  rw[if_neg h0,if_pos h]
 ·rename_i hb0
  have h0: ¬ a < b:=by subst hA;exact of_decide_eq_false hb0
  have h: ¬ a > b:=by subst hA;exact of_decide_eq_false hb
  refine hk _ _ (bE.pure rfl fun ρ=>?_)
  refine Ak ?_
  show _=sgn a b
  unfold sgn
  rw[if_neg h0,if_neg h]
def tF5 (A:Alg) (S:SW) (V:SV) (X:SX) (M:SM) (F:SF):List (Nat×bU):=(201,aC [.v, .v] A (Jn F)) :: ((tF4 A S V X M F))
theorem Ls:COK Tryz.prog (aN (tF5 aA aV aS bR aZ aO)):=aB Ga (OC)
def x7 (F:SF):List CV→List Blk→Option LR
 | [.s (.hp 0 0)],[.fix false [.W w]]=>some ⟨[], .t [.s (.int .i64 (F.li w)), .s (.bool (F.liOK w))],[]⟩
 | _,_=>none
structure LtI (d:Dg) (k r:Int):Prop where
 k0:0≤k
 k1:k≤31
 r0:0≤r
 r1:r < 4294967296
 eq:r=0↔d.dig 0 < 2 ^ 30∧ ∀ i,1≤i→i≤k.toNat→d.dig i=0
theorem J0 (d:Dg) (A:Alg) (hA:A=aA):LtI d 0 (A.bin .shr .u32 (A.dig d 0) 30):=by
 subst hA
 have h:=fQ d 0
 have e:aA.bin .shr .u32 (aA.dig d 0) 30=((d.dig 0 / 2 ^ 30:Nat):Int):=by
  show((d.dig (0:Int).toNat:Nat):Int).fdiv (2 ^ min (30:Int).toNat 32)=_
  rw[Int.fdiv_eq_ediv_of_nonneg _ (by decide)]
  have:((2:Int) ^ min (30:Int).toNat 32)=1073741824:=rfl
  rw[this]
  show((d.dig 0:Nat):Int) / 1073741824=_
  omega
 rw[e]
 refine⟨Int.le_refl 0,by decide,by omega,by omega,?_⟩
 constructor
 ·intro h0
  exact⟨by omega,fun i h1 h2=>by simp at h2;omega⟩
 ·intro h0
  have:=h0.1
  omega
structure MF (A:Alg) (d:Dg) (k r v:Int):Prop where
 o1:A.cmp .leq 1 32=true
 nx:LtI d (k+1) (A.bin .or .u32 r v)
 ad:A.bin .add .i64 k 1=k+1
 ms:(31 - (k+1)).toNat < (31 - k).toNat
theorem auA {d:Dg} {k r:Int} (hI:LtI d k r) (A:Alg) (hA:A=aA) (hk:k < 31) (v:Int) (hv:v=((d.dig (k+1).toNat:Nat):Int)):MF A d k r v:=by
 subst hA hv
 obtain⟨k0,k1,r0,r1,heq⟩:=hI
 have hd:=fQ d (k+1).toNat
 have e:aA.bin .or .u32 r ((d.dig (k+1).toNat:Nat):Int)=((r.toNat||| d.dig (k+1).toNat:Nat):Int):=by
  show aD .or .u32 _ _=_
  rw[yZ _ _ r0 r1 (by omega) (by omega),Int.toNat_natCast]
 have hor:r.toNat||| d.dig (k+1).toNat < 2 ^ 32:=Nat.or_lt_two_pow (by omega) hd
 exact {
  o1:=rfl
  nx:=by
   rw[e]
   refine⟨by omega,by omega,by omega,by omega,?_⟩
   have hz:((r.toNat||| d.dig (k+1).toNat:Nat):Int)=0↔r=0∧d.dig (k+1).toNat=0:=by
    have:r.toNat||| d.dig (k+1).toNat=0↔r.toNat=0∧d.dig (k+1).toNat=0:=Nat.or_eq_zero_iff
    omega
   rw[hz,heq,show(k+1).toNat=k.toNat+1 by omega]
   constructor
   ·rintro⟨⟨h1,h2⟩,h3⟩
    refine⟨h1,fun i i1 i2=>?_⟩
    by_cases hi:i=k.toNat+1
    ·rw[hi];exact h3
    ·exact h2 i i1 (by omega)
   ·rintro⟨h1,h2⟩
    exact⟨⟨h1,fun i i1 i2=>h2 i i1 (by omega)⟩,h2 _ (by omega) (by omega)⟩
  ad:=by show aD .add .i64 k 1=k+1;simp only[aD,IntKind.wrap_i64];omega
  ms:=by omega }
theorem FU (d:Dg):(d.dig 0 < 2 ^ 30∧ ∀ i,1≤i→i≤31→d.dig i=0)↔d.n < 2 ^ 30:=by
 constructor
 ·rintro⟨h1,h2⟩
  have key: ∀ k,k≤31→d.n % 2 ^ (32*(k+1)) < 2 ^ 30:=fun k=>by
   induction k with
   | zero=>
    intro _
    have:=iP d 0
    rw[show 32*(0+1)=32*0+32 by omega] at *
    simp only[Nat.mul_zero,Nat.zero_add,Nat.pow_zero,Nat.mod_one,Nat.one_mul] at this ⊢
    omega
   | succ k ih=>
    intro hk
    rw[iP d (k+1),h2 (k+1) (by omega) hk,Nat.mul_zero,Nat.add_zero]
    exact ih (by omega)
  have:=key 31 (Nat.le_refl _)
  rwa [show 32*(31+1)=32*32 by rfl,lZ] at this
 ·intro h
  have h1: ∀ i,1≤i→d.dig i=0:=fun i hi=>by
   unfold Dg.dig
   rw[Nat.div_eq_of_lt (Nat.lt_of_lt_of_le h (Nat.pow_le_pow_right (by decide) (by omega)))]
  refine⟨?_,fun i hi _=>h1 i hi⟩
  unfold Dg.dig
  simp only[Nat.mul_zero,Nat.pow_zero,Nat.div_one]
  rw[Nat.mod_eq_of_lt (Nat.lt_trans h (by decide))];exact h
structure Pv (A:Alg) (F:SF) (w:Wd) (r:Int):Prop where
 e1:w.neg=true→A.bin .sub .i64 0 (A.wrap .i64 (A.dig w.d 0))=F.li w
 e0:w.neg=false→A.wrap .i64 (A.dig w.d 0)=F.li w
 eo:A.cmp .eql r 0=F.liOK w
theorem Nm {w:Wd} {k r:Int} (hI:LtI w.d k r) (A:Alg) (hA:A=aA) (F:SF) (hF:F=aO) (hk: ¬ k < 31):Pv A F w r:=by
 subst hA hF
 obtain⟨k0,k1,r0,r1,heq⟩:=hI
 have hd:=fQ w.d 0
 have e:aA.wrap .i64 (aA.dig w.d 0)=((w.d.dig 0:Nat):Int):=by
  show IntKind.i64.wrap ((w.d.dig (0:Int).toNat:Nat):Int)=_
  rw[IntKind.wrap_i64]
  show(((w.d.dig 0:Nat):Int)+_) % _ - _=_
  omega
 refine⟨fun h=>?_,fun h=>?_,?_⟩
 ·rw[e]
  show aD .sub .i64 0 ((w.d.dig 0:Nat):Int)=liZ w
  unfold liZ
  rw[h,if_pos rfl]
  simp only[aD,IntKind.wrap_i64];omega
 ·rw[e]
  show _=liZ w
  unfold liZ
  rw[h];rfl
 ·show(r == 0)=decide (w.d.n < 2 ^ 30)
  have hz:r=0↔w.d.n < 2 ^ 30:=by
   rw[heq,show k.toNat=31 by omega]
   exact FU w.d
  by_cases h:r=0
  ·rw[decide_eq_true (hz.1 h),h];rfl
  ·rw[decide_eq_false (fun h'=>h (hz.2 h')),beq_eq_false_iff_ne];exact h
theorem Qa {x:Int} (x0:0≤x) (A:Alg) (hA:A=aA) (hb:A.cmp .lss x 31=true):A.cmp .leq 0 1=true∧A.cmp .leq 32 (Int.ofNat 32)=true∧A.cmp .leq 0 x=true∧A.cmp .lss (A.iadd 1 x) 32=true∧A.cmp .leq 0 (A.iadd 1 x)=true:=by
 subst hA
 have hb:x < 31:=of_decide_eq_true hb
 exact⟨rfl,rfl,bJ _ rfl _ _ x0,bH _ rfl _ _ (by show 1+x < 32;omega),bJ _ rfl _ _ (by show 0≤1+x;omega)⟩
theorem Bt:aJ Tryz.prog 211 (aC [.pn 33] aA (x7 aO)):=by
 refine aH (un:=⟨false,some [0,2,3,4,6,7,17,18,19,20,36]⟩) tok Ls aL (fn:=Tryz.f211) ?_
 intro w Wr args bs r hg ho hWr A L k hA hL hk
 obtain⟨F,hF⟩:=exE aO
 obtain⟨M,hM⟩:=exE aZ
 obtain⟨S,hS⟩:=exE aV
 obtain⟨V,hV⟩:=exE aS
 obtain⟨X,hX⟩:=exE bR
 try rw[← hF]
 try rw[← hM]
 try rw[← hS]
 try rw[← hV]
 try rw[← hX]
 try rw[← hA]
 unfold x7 at hg
 split at hg <;> cases hg
 rename_i w
 have i0:=J0 w.d A hA
 cbv
 repeat' with_reducible first | (intro hb;cbv) | refine UM ?_ ?_
 all_goals first | ((try subst hA);(try subst hS);(try subst hR);(try subst hX);(try subst hC);(try subst hV);(try subst hT);(try subst hM);(try subst hF);(try subst hH);(try subst hK);(try subst hJ);(try subst hE);(try subst hD);(try subst hU);(try subst hW);(try subst hI);(try subst hP);decide +kernel) | skip
 have eN:A.isub (Int.ofNat 32) 1=31:=by subst hA;rfl
 refine hL _ _ _ (aQ (un:=⟨false,some [0,2,3,4,6,7,17,18,19,20,36]⟩) tok Ls aL (fun p:Int×Int=>⟨[(19,⟨[], .c (.s (.int .i64 p.1))⟩),(18,⟨[], .c (.s (.int .i64 31))⟩),(17,⟨[], .c (.s (.ha 0 1 1 1 32 32))⟩),(4,⟨[], .c (.s (.int .u32 p.2))⟩),(0,⟨[], .c (.s (.hp 0 0))⟩)],[(0, .fix false [.W w])],1⟩)
  (fun p=>LtI w.d p.1 p.2) (fun p=>(31 - p.1).toNat) (0,_) i0 ?_ (fun _ i hi=>by have:=hWr i hi;simp at this;show i < 1;omega) ?_)
 ·exact⟨⟨⟨rfl,rfl,fun _=>rfl⟩,⟨rfl,rfl,leI eN⟩,⟨rfl,rfl,fun _=>rfl⟩,⟨rfl,rfl,fun _=>rfl⟩,⟨rfl,rfl,fun _=>rfl⟩,trivial⟩,⟨aF rfl,trivial⟩,rfl,rfl⟩
 clear i0 eN
 rintro⟨x,r⟩ hI A2 L2 k2 hA2 hL2 hnext hexit hret
 have st:=fun(hb:A2.cmp .lss x 31=true)=>auA hI A2 hA2 (by subst hA2;exact of_decide_eq_true hb) (A2.dig w.d (A2.iadd 1 x)) (by subst hA2;show((w.d.dig (1+x).toNat:Nat):Int)=_;rw[Int.add_comm])
 have en:=fun(hb:A2.cmp .lss x 31=false)=>Nm hI A hA F hF (by subst hA2;exact of_decide_eq_false hb)
 have x0:=hI.k0
 have ob:=fun(hb:A2.cmp .lss x 31=true)=>Qa x0 A2 hA2 hb
 clear hI
 rw[← hA2, ← hS, ← hV, ← hX, ← hM, ← hF]
 cbv
 repeat' with_reducible first | (intro hb;cbv) | refine UM ?_ ?_
 all_goals first | exact(ob (by assumption)).1 | exact(ob (by assumption)).2.1 | exact(ob (by assumption)).2.2.1 | exact(ob (by assumption)).2.2.2.1 | exact(ob (by assumption)).2.2.2.2 | skip
 ·refine hnext _ (x+1,_) (st hb).nx (st hb).ms ?_
  have ead:=(st hb).ad
  exact⟨⟨⟨rfl,rfl,leI ead⟩,⟨rfl,rfl,fun _=>rfl⟩,⟨rfl,rfl,fun _=>rfl⟩,⟨rfl,rfl,fun _=>rfl⟩,⟨rfl,rfl,fun _=>rfl⟩,trivial⟩,⟨aF rfl,trivial⟩,rfl,rfl⟩
 ·apply hexit
  have em:=en hb
  clear hexit hnext hret st en hb
  cbv
  repeat' with_reducible first | (intro hb;cbv) | refine UM ?_ ?_
  ·have e:=em.e1 hb
   refine hk _ _ (bE.pure rfl fun ρ=>?_)
   subst hF
   exact BR e em.eo
  ·have e:=em.e0 hb
   refine hk _ _ (bE.pure rfl fun ρ=>?_)
   subst hF
   exact BR e em.eo
def tF6 (A:Alg) (S:SW) (V:SV) (X:SX) (M:SM) (F:SF):List (Nat×bU):=(211,aC [.pn 33] A (x7 F)) :: ((tF5 A S V X M F))
theorem OD:COK Tryz.prog (aN (tF6 aA aV aS bR aZ aO)):=aB Bt (Ls)
def uL (F:SF):List CV→List Blk→Option LR
 | [.s (.hp 0 0)],[.fix false [.R r]]=>some ⟨[], .t [.g [.s (.int .i64 (F.smN r)), .s (.int .i64 (F.smD r))], .s (.bool (F.smOK r))],[]⟩
 | _,_=>none
section
variable {ρ:Rho} {f:Nat→Nat}
theorem Ri {a b c d:Int} {x y:Bool} (h1:a=c) (h2:b=d) (h3:x=y):(XV.t [.g [.s (.int .i64 a), .s (.int .i64 b)], .s (.tt x)]).den ρ=((XV.t [.g [.s (.int .i64 c), .s (.int .i64 d)], .s (.bool y)]).ren f).den ρ:=by subst h1 h2 h3;rfl
theorem OY {a b c d:Int} {x y:Bool} (h1:a=c) (h2:b=d) (h3:x=y):(XV.t [.g [.s (.lit .i64 a), .s (.lit .i64 b)], .s (.tt x)]).den ρ=((XV.t [.g [.s (.int .i64 c), .s (.int .i64 d)], .s (.bool y)]).ren f).den ρ:=by subst h1 h2 h3;rfl
end
theorem Dq (w:Wd):aO.b62 (liZ w)=true:=by
 have h:=fQ w.d 0
 refine iL.2 ?_
 unfold liZ
 split <;> omega
theorem uO {w:Wd} (h:w.d.n < 2 ^ 30):liZ w=aK w:=by
 have hd:w.d.dig 0=w.d.n:=by
  unfold Dg.dig
  simp only[Nat.mul_zero,Nat.pow_zero,Nat.div_one]
  exact Nat.mod_eq_of_lt (Nat.lt_trans h (by decide))
 unfold liZ
 rw[hd]
 rfl
def Ar (A:Alg) (F:SF) (r:Rt):Bool:=A.ite (A.ite (A.ite (A.ite (A.not (F.liOK r.N)) true (A.not (F.liOK r.D))) true (A.cmp .leq (F.li r.D) 0)) true (A.ite (A.cmp .eql (F.li r.N) 0) r.N.neg false)) true (A.cmp .neq (F.com (F.li r.N) (F.li r.D)) 1)
theorem Ep (r:Rt):Ar aA aO r= !smB r:=by
 unfold Ar smB
 show(if(if(if(if(!liB r.N)=true then true else !liB r.D)=true then true else decide (liZ r.D≤0))=true then true else if(liZ r.N == 0)=true then r.N.neg else false)=true then true else(((Nat.gcd (liZ r.N).natAbs (liZ r.D).natAbs:Nat):Int) != 1))=_
 cases h1:liB r.N
 ·rfl
 cases h2:liB r.D
 ·rfl
 have h1:r.N.d.n < 2 ^ 30:=of_decide_eq_true h1
 have h2:r.D.d.n < 2 ^ 30:=of_decide_eq_true h2
 rw[uO h1,uO h2]
 simp only[Bool.not_true,Bool.false_eq_true,if_false,Bool.true_and]
 have hg:Nat.gcd (aK r.N).natAbs (aK r.D).natAbs=Int.gcd (aK r.N) (aK r.D):=rfl
 rw[hg]
 by_cases h3:aK r.D≤0
 ·rw[decide_eq_true h3]
  simp only[if_true]
  symm
  rw[Bool.not_eq_true']
  cases h:Bj r
  ·rfl
  ·have:=(lC.1 h).p;omega
 rw[decide_eq_false h3]
 simp only[Bool.false_eq_true,if_false]
 have hD:gE r.D=true:=by
  unfold gE
  have:r.D.d.n≠0:=by
   intro h0
   have:=bF r.D
   omega
  rw[decide_eq_true this,Bool.or_true]
 have hN:gE r.N= !(if(aK r.N == 0)=true then r.N.neg else false):=by
  unfold gE
  have ha:=bF r.N
  by_cases h0:aK r.N=0
  ·rw[h0,decide_eq_false (by omega: ¬ r.N.d.n≠0)];simp
  ·rw[decide_eq_true (show r.N.d.n≠0 by omega)]
   have:(aK r.N == 0)=false:=by rw[beq_eq_false_iff_ne];exact h0
   rw[this];simp
 unfold Bj
 rw[hN,hD,decide_eq_true (show 0 < aK r.D by omega)]
 by_cases hq:Int.gcd (aK r.N) (aK r.D)=1
 ·rw[hq,decide_eq_true rfl]
  cases (if(aK r.N == 0)=true then r.N.neg else false) <;> rfl
 ·rw[decide_eq_false hq]
  have:(((Int.gcd (aK r.N) (aK r.D):Nat):Int) != 1)=true:=by rw[bne_iff_ne];omega
  rw[this]
  cases (if(aK r.N == 0)=true then r.N.neg else false) <;> rfl
structure SmF (A:Alg) (F:SF) (r:Rt):Prop where
 i1: ∀ b,A.imp b (F.b62 (F.li r.N))=true
 i2: ∀ b,A.imp b (F.b62 (F.li r.D))=true
 e1:Ar A F r=true→0=F.smN r∧0=F.smD r∧false=F.smOK r
 e0:Ar A F r=false→F.li r.N=F.smN r∧F.li r.D=F.smD r∧true=F.smOK r
theorem Ta (r:Rt) (A:Alg) (hA:A=aA) (F:SF) (hF:F=aO):SmF A F r:=by
 subst hA hF
 refine⟨fun b=>HU (Dq _),fun b=>HU (Dq _),fun h=>?_,fun h=>?_⟩
 ·rw[Ep,Bool.not_eq_true'] at h
  have e1:aO.smN r=0:=by show(if smB r=true then _ else _)=_;rw[h];rfl
  have e2:aO.smD r=0:=by show(if smB r=true then _ else _)=_;rw[h];rfl
  exact⟨e1.symm,e2.symm,h.symm⟩
 ·rw[Ep,Bool.not_eq_false'] at h
  have e1:aO.smN r=aK r.N:=by show(if smB r=true then _ else _)=_;rw[h];rfl
  have e2:aO.smD r=aK r.D:=by show(if smB r=true then _ else _)=_;rw[h];rfl
  have h':=h
  unfold smB at h'
  rw[Bool.and_eq_true,Bool.and_eq_true] at h'
  have h1:r.N.d.n < 2 ^ 30:=of_decide_eq_true h'.1
  have h2:r.D.d.n < 2 ^ 30:=of_decide_eq_true h'.2.1
  exact⟨by rw[e1];exact uO h1,by rw[e2];exact uO h2,h.symm⟩
theorem DG:aJ Tryz.prog 190 (aC [.p] aA (uL aO)):=by
 refine aH (un:=⟨false,some [0,2,3,4,5,6,7,48]⟩) tok OD aL (fn:=Tryz.f190) ?_
 intro w Wr args bs r hg ho hWr A L k hA hL hk
 obtain⟨F,hF⟩:=exE aO
 obtain⟨M,hM⟩:=exE aZ
 obtain⟨S,hS⟩:=exE aV
 obtain⟨V,hV⟩:=exE aS
 obtain⟨X,hX⟩:=exE bR
 try rw[← hF]
 try rw[← hM]
 try rw[← hS]
 try rw[← hV]
 try rw[← hX]
 try rw[← hA]
 unfold uL at hg
 split at hg <;> cases hg
 rename_i r
 have sf:=Ta r A hA F hF
 cbv
 repeat' with_reducible first | (intro hb;cbv) | refine UM ?_ ?_
 all_goals first | exact sf.i1 _ | exact sf.i2 _ | skip
 ·have e:=sf.e1 hb
  refine hk _ _ (bE.pure rfl fun ρ=>?_)
  subst hF
  exact OY e.1 e.2.1 e.2.2
 ·have e:=sf.e0 hb
  refine hk _ _ (bE.pure rfl fun ρ=>?_)
  subst hF
  exact Ri e.1 e.2.1 e.2.2
def Jl (A:Alg) (F:SF):List CV→List Blk→Option LR
 | [.s (.hp 0 0), .s (.hp 1 0)],[.fix false [.R a], .fix false [.R b]]=>some ⟨[], .t [.g [.s (.int .i64 (F.smN a)), .s (.int .i64 (F.smD a))], .g [.s (.int .i64 (F.smN b)), .s (.int .i64 (F.smD b))], .s (.bool (A.ite (F.smOK a) (F.smOK b) false))],[]⟩
 | _,_=>none
def tF7 (A:Alg) (S:SW) (V:SV) (X:SX) (M:SM) (F:SF):List (Nat×bU):=(190,aC [.p] A (uL F)) :: ((tF6 A S V X M F))
theorem OE:COK Tryz.prog (aN (tF7 aA aV aS bR aZ aO)):=aB DG (OD)
theorem F9:aJ Tryz.prog 157 (aC [.p, .p] aA (Jl aA aO)):=by
 refine aH (un:=⟨false,some [0,1,4,5,6,7,8,9,10]⟩) tok OE aL (fn:=Tryz.f157) ?_
 intro w Wr args bs r hg ho hWr A L k hA hL hk
 obtain⟨F,hF⟩:=exE aO
 obtain⟨M,hM⟩:=exE aZ
 obtain⟨S,hS⟩:=exE aV
 obtain⟨V,hV⟩:=exE aS
 obtain⟨X,hX⟩:=exE bR
 try rw[← hF]
 try rw[← hM]
 try rw[← hS]
 try rw[← hV]
 try rw[← hX]
 try rw[← hA]
 unfold Jl at hg
 split at hg <;> cases hg
 rename_i a b
 cbv
 refine hk _ _ (bE.pure rfl fun ρ=>?_)
 subst hA hF
 rfl
def tF8 (A:Alg) (S:SW) (V:SV) (X:SX) (M:SM) (F:SF):List (Nat×bU):=(157,aC [.p, .p] A (Jl A F)) :: ((tF7 A S V X M F))
theorem OF:COK Tryz.prog (aN (tF8 aA aV aS bR aZ aO)):=aB F9 (OE)
def Ml (F:SF):List CV→List Blk→Option LR
 | [.g [.R r]],[]=>some ⟨[], .c (.s (.bool (F.isR r))),[]⟩
 | _,_=>none
theorem SN (r:Rt) (A:Alg) (hA:A=aA) (S:SW) (hS:S=aV) (V:SV) (hV:V=aS) (F:SF) (hF:F=aO):(F.smOK r=true→true=F.isR r)∧
  A.ite (A.ite (A.ite (S.isW r.N) (S.isW r.D) false) (A.cmp .gtr (S.cmp r.D ⟨false,Dg.zero⟩) 0) false) (S.one (V.gcd r.N r.D)) false=F.isR r:=by
 subst hA hS hV hF
 constructor
 ·intro h
  have h:smB r=true:=h
  unfold smB at h
  rw[Bool.and_eq_true,Bool.and_eq_true] at h
  exact h.2.2.symm
 ·show(if(if(if gE r.N=true then gE r.D else false)=true then decide (sgn (aK r.D) (aK ⟨false,Dg.zero⟩) > 0) else false)=true then decide (aK (aS.gcd r.N r.D)=1) else false)=Bj r
  have h0:aK ⟨false,Dg.zero⟩=0:=rfl
  have hg:aK (aS.gcd r.N r.D)=((Int.gcd (aK r.N) (aK r.D):Nat):Int):=by
   show aK (ofZ ((Int.gcd (aK r.N) (aK r.D):Nat):Int))=_
   refine dV (decide_eq_true (p:=_ < 2 ^ 1024) ?_)
   rw[Int.natAbs_natCast]
   unfold Int.gcd
   rw[bF,bF]
   exact lR r.N.d.lt r.D.d.lt
  have hs:decide (sgn (aK r.D) 0 > 0)=decide (0 < aK r.D):=by
   rw[decide_eq_decide]
   unfold sgn
   constructor
   ·intro h
    by_cases h1:aK r.D < 0
    ·rw[if_pos h1] at h;omega
    ·rw[if_neg h1] at h
     by_cases h2:0 < aK r.D
     ·exact h2
     ·rw[if_neg h2] at h;omega
   ·intro h
    rw[if_neg (by omega),if_pos h];decide
  have h1:decide (((Int.gcd (aK r.N) (aK r.D):Nat):Int)=1)=decide (Int.gcd (aK r.N) (aK r.D)=1):=by rw[decide_eq_decide];omega
  rw[h0,hg,hs,h1]
  unfold Bj
  cases gE r.N <;> cases gE r.D <;> cases decide (0 < aK r.D) <;> rfl
theorem NY:aJ Tryz.prog 182 (aC [.v] aA (Ml aO)):=by
 refine aH (un:=⟨false,some [1,2,3,4,9]⟩) tok OF aL (fn:=Tryz.f182) ?_
 intro w Wr args bs r hg ho hWr A L k hA hL hk
 obtain⟨F,hF⟩:=exE aO
 obtain⟨M,hM⟩:=exE aZ
 obtain⟨S,hS⟩:=exE aV
 obtain⟨V,hV⟩:=exE aS
 obtain⟨X,hX⟩:=exE bR
 try rw[← hF]
 try rw[← hM]
 try rw[← hS]
 try rw[← hV]
 try rw[← hX]
 try rw[← hA]
 unfold Ml at hg
 split at hg <;> cases hg
 rename_i r
 have f:=SN r A hA S hS V hV F hF
 cbv
 repeat' with_reducible first | (intro hb;cbv) | refine UM ?_ ?_
 ·refine hk _ _ (bE.pure rfl fun ρ=>?_)
  have:=f.1 hb
  subst hF
  exact BH this
 ·refine hk _ _ (bE.pure rfl fun ρ=>?_)
  have:=f.2
  subst hF
  exact yQ this
def qN (F:SF):List CV→List Blk→Option LR
 | [.g [.R r], .s (.int .i64 n)],[]=>some ⟨[], .c (.s (.bool (F.safe r n))),[]⟩
 | _,_=>none
def tF9 (A:Alg) (S:SW) (V:SV) (X:SX) (M:SM) (F:SF):List (Nat×bU):=(182,aC [.v] A (Ml F)) :: ((tF8 A S V X M F))
theorem Lt:COK Tryz.prog (aN (tF9 aA aV aS bR aZ aO)):=aB NY (OF)
theorem Gc:aJ Tryz.prog 152 (aC [.v, .v] aA (qN aO)):=by
 refine aH (un:=⟨false,some [1,2,4]⟩) tok Lt aL (fn:=Tryz.f152) ?_
 intro w Wr args bs r hg ho hWr A L k hA hL hk
 obtain⟨F,hF⟩:=exE aO
 obtain⟨M,hM⟩:=exE aZ
 obtain⟨S,hS⟩:=exE aV
 obtain⟨V,hV⟩:=exE aS
 obtain⟨X,hX⟩:=exE bR
 try rw[← hF]
 try rw[← hM]
 try rw[← hS]
 try rw[← hV]
 try rw[← hX]
 try rw[← hA]
 unfold qN at hg
 split at hg <;> cases hg
 rename_i r n
 have f:A.ite (A.ite (A.cmp .leq (S.bits r.N) n) (A.cmp .leq (S.bits r.D) n) false) (F.isR r) false=F.safe r n:=by
  subst hA hS hF
  show(if(if decide (cS r.N≤n)=true then decide (cS r.D≤n) else false)=true then Bj r else false)=cQ r n
  unfold cQ
  cases decide (cS r.N≤n) <;> cases decide (cS r.D≤n) <;> rfl
 cbv
 refine hk _ _ (bE.pure rfl fun ρ=>?_)
 subst hF
 exact yQ f
def lQ (F:SF):List CV→List Blk→Option LR
 | [.g [.R r]],[]=>some ⟨[], .c (.s (.int .i64 (F.sign r))),[]⟩
 | _,_=>none
theorem Ge:aJ Tryz.prog 160 (aC [.v] aA (lQ aO)):=by
 refine aH (un:=⟨false,some [1,2]⟩) tok Lt aL (fn:=Tryz.f160) ?_
 intro w Wr args bs r hg ho hWr A L k hA hL hk
 obtain⟨F,hF⟩:=exE aO
 obtain⟨M,hM⟩:=exE aZ
 obtain⟨S,hS⟩:=exE aV
 obtain⟨V,hV⟩:=exE aS
 obtain⟨X,hX⟩:=exE bR
 try rw[← hF]
 try rw[← hM]
 try rw[← hS]
 try rw[← hV]
 try rw[← hX]
 try rw[← hA]
 unfold lQ at hg
 split at hg <;> cases hg
 rename_i r
 cbv
 refine hk _ _ (bE.pure rfl fun ρ=>?_)
 subst hS hF
 exact B2 rfl
def RO (A:Alg) (S:SW) (V:SV) (X:SX) (M:SM) (F:SF):List (Nat×bU):=(152,aC [.v, .v] A (qN F)) :: (160,aC [.v] A (lQ F)) :: ((tF9 A S V X M F))
theorem Ew:COK Tryz.prog (aN (RO aA aV aS bR aZ aO)):=aB Gc (aB Ge (Lt))
def Ji (A:Alg) (F:SF):List CV→List Blk→Option LR
 | [.s (.hs 0)],[.vec false .rt l]=>some ⟨[A.cmp .lss (A.len l) 1000000], .c (.s (.bool (F.all l))),[]⟩
 | _,_=>none
def AlI (l:List Rt) (k:Int):Prop:=0≤k∧k≤l.length∧aO.all (l.take k.toNat)=true
structure Mv (A:Alg) (F:SF) (l:List Rt) (k:Int) (r:Rt):Prop where
 o1:A.cmp .leq 0 k=true
 no:A.not (F.safe r 500)=true→false=F.all l
 nx:A.not (F.safe r 500)=false→AlI l (k+1)
 ad:A.bin .add .i64 k 1=k+1
 ms:((l.length:Int) - (k+1)).toNat < ((l.length:Int) - k).toNat
theorem ID {l:List Rt} (hn:l.length < 1000000) {k:Int} (hI:AlI l k) (A:Alg) (hA:A=aA) (F:SF) (hF:F=aO) (hb:A.cmp .lss k (A.len l)=true) (r:Rt) (hr:r=A.get l k ⟨⟨false,A.zD⟩,⟨false,A.zD⟩⟩):Mv A F l k r:=by
 subst hA hF
 have hb:k < (l.length:Int):=of_decide_eq_true hb
 obtain⟨k0,k1,h⟩:=hI
 have hlt:k.toNat < l.length:=by omega
 have er:r=l[k.toNat]:=by
  rw[hr]
  show(l[k.toNat]?).getD _=_
  rw[List.getElem?_eq_getElem hlt];rfl
 exact {
  o1:=bJ _ rfl _ _ k0
  no:=fun h'=>by
   have h':(!cQ r 500)=true:=h'
   symm
   show(l.all fun r=>cQ r 500)=false
   rw[List.all_eq_false]
   exact⟨r,by rw[er];exact List.getElem_mem hlt,by simpa using h'⟩
  nx:=fun h'=>by
   have h':(!cQ r 500)=false:=h'
   refine⟨by omega,by omega,?_⟩
   show((l.take (k+1).toNat).all fun r=>cQ r 500)=true
   rw[show(k+1).toNat=k.toNat+1 by omega,List.take_succ_eq_append_getElem hlt,List.all_append]
   have h:((l.take k.toNat).all fun r=>cQ r 500)=true:=h
   rw[h, ← er]
   simpa using h'
  ad:=by show aD .add .i64 k 1=k+1;simp only[aD,IntKind.wrap_i64];omega
  ms:=by omega }
theorem MZ {l:List Rt} {k:Int} (hI:AlI l k) (A:Alg) (hA:A=aA) (F:SF) (hF:F=aO) (hb:A.cmp .lss k (A.len l)=false):true=F.all l:=by
 subst hA hF
 have hb: ¬ k < (l.length:Int):=of_decide_eq_false hb
 obtain⟨k0,k1,h⟩:=hI
 rw[List.take_of_length_le (by omega)] at h
 exact h.symm
theorem Kk:aJ Tryz.prog 159 (aC [.s .rt] aA (Ji aA aO)):=by
 refine aH (un:=⟨false,some [0,2,4,5,6,7,8,13]⟩) tok Ew aL (fn:=Tryz.f159) ?_
 intro w Wr args bs r hg ho hWr A L k hA hL hk
 obtain⟨F,hF⟩:=exE aO
 obtain⟨M,hM⟩:=exE aZ
 obtain⟨S,hS⟩:=exE aV
 obtain⟨V,hV⟩:=exE aS
 obtain⟨X,hX⟩:=exE bR
 try rw[← hF]
 try rw[← hM]
 try rw[← hS]
 try rw[← hV]
 try rw[← hX]
 try rw[← hA]
 unfold Ji at hg
 split at hg <;> cases hg
 rename_i l
 have hlen:=(aG ho).1
 simp only[aA,aP,decide_eq_true_eq] at hlen
 have hlen:l.length < 1000000:=by omega
 clear ho
 have i0:AlI l 0:=⟨Int.le_refl 0,Int.natCast_nonneg _,rfl⟩
 cbv
 refine hL _ _ _ (aQ (un:=⟨false,some [0,2,4,5,6,7,8,13]⟩) tok Ew aL (fun k:Int=>⟨[(7,⟨[], .c (.s (.int .i64 k))⟩),(6,⟨[], .c (.s (.int .i64 (aA.len l)))⟩),(5,⟨[], .c (.s (.hs 0))⟩)],[(0, .vec false .rt l)],1⟩)
  (fun k=>AlI l k) (fun k=>((l.length:Int) - k).toNat) 0 i0 ?_ (fun _ i hi=>by have:=hWr i hi;simp at this;show i < 1;omega) ?_)
 ·exact⟨⟨⟨rfl,rfl,fun _=>rfl⟩,⟨rfl,rfl,leI (by subst hA;rfl)⟩,⟨rfl,rfl,fun _=>rfl⟩,trivial⟩,⟨aF rfl,trivial⟩,rfl,rfl⟩
 clear i0
 rintro k hI A2 L2 k2 hA2 hL2 hnext hexit hret
 have st:=fun hb:A2.cmp .lss k (A2.len l)=true=>ID hlen hI A2 hA2 F hF hb _ rfl
 have en:=fun hb:A2.cmp .lss k (A2.len l)=false=>MZ hI A2 hA2 F hF hb
 clear hI
 rw[← hA2, ← hS, ← hV, ← hX, ← hM, ← hF]
 cbv
 repeat' with_reducible first | (intro hb;cbv) | refine UM ?_ ?_
 all_goals first | exact(st hb).o1 | exact hb | skip
 ·rename_i hb0
  have e:=(st hb0).no hb
  apply hret
  clear hexit hnext hret st en
  cbv
  refine hk _ _ (bE.pure rfl fun ρ=>?_)
  subst hF
  exact BH e
 ·rename_i hb0
  refine hnext _ (k+1) ((st hb0).nx hb) (st hb0).ms ?_
  have ead:=(st hb0).ad
  subst hA2
  exact⟨⟨⟨rfl,rfl,leI ead⟩,⟨rfl,rfl,fun _=>rfl⟩,⟨rfl,rfl,fun _=>rfl⟩,trivial⟩,⟨aF rfl,trivial⟩,rfl,rfl⟩
 ·have e:=en hb
  apply hexit
  clear hexit hnext hret st en
  cbv
  refine hk _ _ (bE.pure rfl fun ρ=>?_)
  subst hF
  exact BH e
def RP (A:Alg) (S:SW) (V:SV) (X:SX) (M:SM) (F:SF):List (Nat×bU):=(159,aC [.s .rt] A (Ji A F)) :: ((RO A S V X M F))
theorem Au:COK Tryz.prog (aN (RP aA aV aS bR aZ aO)):=aB Kk (Ew)
def Bd (F:SF):List CV→List Blk→Option LR
 | [.g [.W n], .g [.W d]],[]=>some ⟨[], .t [.g [.R (F.new n d)], .s (.bool (F.newOK n d))],[]⟩
 | _,_=>none
def F4 (A:Alg) (S:SW) (n d:Wd):Bool:=A.ite (A.ite (A.ite (A.ite (A.cmp .eql (S.bits d) 0) true (A.cmp .gtr (S.bits n) 1023)) true (A.cmp .gtr (S.bits d) 1023)) true (A.not (S.isW n))) true (A.not (S.isW d))
theorem Kg (n d:Wd):F4 aA aV n d= !uV n d:=by
 unfold F4 uV
 show(if(if(if(if(cS d == 0)=true then true else decide (cS n > 1023))=true then true else decide (cS d > 1023))=true then true else !gE n)=true then true else !gE d)=_
 have h0:(cS d == 0)= !decide (d.d.n≠0):=by
  have:(cS d == 0)=decide (d.d.n=0):=sW d.d.n
  rw[this]
  by_cases h:d.d.n=0 <;> simp[h]
 have h1:decide (cS n > 1023)= !decide (cS n≤1023):=by
  by_cases h:cS n≤1023
  ·rw[decide_eq_true h,decide_eq_false (by omega)];rfl
  ·rw[decide_eq_false h,decide_eq_true (by omega)];rfl
 have h2:decide (cS d > 1023)= !decide (cS d≤1023):=by
  by_cases h:cS d≤1023
  ·rw[decide_eq_true h,decide_eq_false (by omega)];rfl
  ·rw[decide_eq_false h,decide_eq_true (by omega)];rfl
 rw[h0,h1,h2]
 cases decide (d.d.n≠0) <;> cases decide (cS n≤1023) <;> cases decide (cS d≤1023) <;> cases gE n <;> cases gE d <;> rfl
structure Pz (A:Alg) (S:SW) (V:SV) (F:SF) (n d n' d':Wd):Prop where
 e1:A.not (S.one (V.gcd n' d'))=true→(⟨V.dmQ n' (V.gcd n' d'),V.dmQ d' (V.gcd n' d')⟩:Rt)=F.new n d
 e0:A.not (S.one (V.gcd n' d'))=false→(⟨n',d'⟩:Rt)=F.new n d
structure So (A:Alg) (S:SW) (V:SV) (F:SF) (n d:Wd):Prop where
 c1:F4 A S n d=true→cN=F.new n d∧false=F.newOK n d
 c0:F4 A S n d=false→true=F.newOK n d
 m:F4 A S n d=false→d.neg=true→Pz A S V F n d (S.neg n) (S.neg d)
 p:F4 A S n d=false→d.neg=false→Pz A S V F n d n d
theorem Ny {n d n' d':Wd} (hB:uV n d=true) (hn:gE n'=true) (hd:gE d'=true) (h0:0 < aK d') (hq:Rat.divInt (aK n) (aK d)=Rat.divInt (aK n') (aK d')):Pz aA aV aS aO n d n' d':=by
 have hN:=Br hB
 obtain⟨G,hG⟩: ∃ G:Nat,G=Int.gcd (aK n') (aK d'):=⟨_,rfl⟩
 have hG0:0 < G:=by rw[hG];exact Int.gcd_pos_of_ne_zero_right _ (by omega)
 have hGf:jB (G:Int)=true:=by
  refine decide_eq_true (p:=_ < 2 ^ 1024) ?_
  rw[Int.natAbs_natCast,hG]
  unfold Int.gcd
  rw[bF,bF]
  exact lR n'.d.lt d'.d.lt
 have hg:aS.gcd n' d'=ofZ (G:Int):=by rw[hG];rfl
 have hgv:aK (aS.gcd n' d')=(G:Int):=by rw[hg];exact dV hGf
 have h2:(Rat.divInt (aK n') (aK d')).num=aK n' / (G:Int):=by
  rw[Rat.num_divInt,Int.sign_eq_one_of_pos h0,Int.one_mul,Int.gcd_comm,hG]
 have h3:((Rat.divInt (aK n') (aK d')).den:Int)=aK d' / (G:Int):=by
  rw[Rat.den_divInt,if_neg (by omega),Int.gcd_comm, ← hG,Int.natCast_ediv]
  congr 1;omega
 have dn:(G:Int) ∣aK n':=by rw[hG];exact Int.gcd_dvd_left ..
 have dd:(G:Int) ∣aK d':=by rw[hG];exact Int.gcd_dvd_right ..
 have hquo: ∀ z:Int,(G:Int) ∣z→z.tdiv (G:Int)=z / (G:Int):=fun z ⟨c,hc⟩=>by
  rw[hc,Int.mul_tdiv_cancel_left _ (by omega),Int.mul_ediv_cancel_left _ (by omega)]
 refine⟨fun _=>?_,fun h=>?_⟩
 ·obtain⟨_,_,_,a4,_⟩:=Sg (x:=n') (y:=aS.gcd n' d') rfl hgv (by omega)
  obtain⟨_,_,_,b4,_⟩:=Sg (x:=d') (y:=aS.gcd n' d') rfl hgv (by omega)
  rw[hN,hq,a4,b4,hquo _ dn,hquo _ dd]
  unfold ofQ
  rw[h2,h3]
 ·have h:(!decide (aK (aS.gcd n' d')=1))=false:=h
  rw[hgv] at h
  have h:(G:Int)=1:=by simpa using h
  rw[hN,hq]
  unfold ofQ
  rw[h2,h3,h,Int.ediv_one,Int.ediv_one,pO hn,pO hd]
theorem Nz (n d:Wd) (A:Alg) (hA:A=aA) (S:SW) (hS:S=aV) (V:SV) (hV:V=aS) (F:SF) (hF:F=aO):So A S V F n d:=by
 subst hA hS hV hF
 have hb:F4 aA aV n d=false→uV n d=true:=fun h=>by rw[Kg,Bool.not_eq_false'] at h;exact h
 have hp:uV n d=true→d.d.n≠0∧gE n=true∧gE d=true:=fun h=>by
  unfold uV at h
  simp only[Bool.and_eq_true,decide_eq_true_eq] at h
  exact⟨h.1,h.2.2.2.1,h.2.2.2.2⟩
 refine⟨fun h=>?_,fun h=>(hb h).symm,fun h hd=>?_,fun h hd=>?_⟩
 ·rw[Kg,Bool.not_eq_true'] at h
  constructor
  ·show cN=if uV n d=true then _ else cN
   rw[h];rfl
  ·exact h.symm
 ·have h:=hb h
  obtain⟨h0,h1,h2⟩:=hp h
  refine Ny h (uN _) (uN _) ?_ ?_
  ·rw[pT]
   have:aK d= -(d.d.n:Int):=by show(if d.neg=true then _ else _)=_;rw[hd];rfl
   omega
  ·rw[pT,pT,Rat.neg_divInt_neg]
 ·have h:=hb h
  obtain⟨h0,h1,h2⟩:=hp h
  refine Ny h h1 h2 ?_ rfl
  have:aK d=(d.d.n:Int):=by show(if d.neg=true then _ else _)=_;rw[hd];rfl
  omega
theorem Ks:aJ Tryz.prog 153 (aC [.v, .v] aA (Bd aO)):=by
 refine aH (un:=⟨false,some [2,3,4,5,6,29,32,42]⟩) tok Au aL (fn:=Tryz.f153) ?_
 intro w Wr args bs r hg ho hWr A L k hA hL hk
 obtain⟨F,hF⟩:=exE aO
 obtain⟨M,hM⟩:=exE aZ
 obtain⟨S,hS⟩:=exE aV
 obtain⟨V,hV⟩:=exE aS
 obtain⟨X,hX⟩:=exE bR
 try rw[← hF]
 try rw[← hM]
 try rw[← hS]
 try rw[← hV]
 try rw[← hX]
 try rw[← hA]
 unfold Bd at hg
 split at hg <;> cases hg
 rename_i n d
 have ns:=Nz n d A hA S hS V hV F hF
 cbv
 repeat' with_reducible first | (intro hb;cbv) | refine UM ?_ ?_
 ·have e:=ns.c1 hb
  refine hk _ _ (bE.pure rfl fun ρ=>?_)
  subst hF
  exact kP e.1 e.2
 ·rename_i h1 h2
  have e:=(ns.m h1 h2).e1 hb
  have o:=ns.c0 h1
  refine hk _ _ (bE.pure rfl fun ρ=>?_)
  subst hF
  exact kP e o
 ·rename_i h1 h2
  have e:=(ns.m h1 h2).e0 hb
  have o:=ns.c0 h1
  refine hk _ _ (bE.pure rfl fun ρ=>?_)
  subst hF
  exact kP e o
 ·rename_i h1 h2
  have e:=(ns.p h1 h2).e1 hb
  have o:=ns.c0 h1
  refine hk _ _ (bE.pure rfl fun ρ=>?_)
  subst hF
  exact kP e o
 ·rename_i h1 h2
  have e:=(ns.p h1 h2).e0 hb
  have o:=ns.c0 h1
  refine hk _ _ (bE.pure rfl fun ρ=>?_)
  subst hF
  exact kP e o
def C9 (A:Alg) (V:SV):List CV→List Blk→Option LW
 | [.g [.W x], .g [.W y], .s (.hp 0 0)],[.fix true [.s (.tt true)]]=>some ⟨[], .c (.g [.W (V.mul x y)]),[],[.fix true [.s (.bool (V.mulOK x y))]]⟩
 | [.g [.W x], .g [.W y], .s (.hp 0 0)],[.fix true [.s (.bool b)]]=>some ⟨[], .c (.g [.W (V.mul x y)]),[],[.fix true [.s (.bool (A.ite b (V.mulOK x y) false))]]⟩
 | _,_=>none
theorem DH:aJ Tryz.prog 161 (cM [.v, .v, .pw] aA (C9 aA aS)):=by
 refine cT (un:=⟨false,some [2,3,4,6,7,8]⟩) tok Au aL (fn:=Tryz.f161) ?_
 intro w Wr args bs r hg ho hWr A L k hA hL hk
 obtain⟨F,hF⟩:=exE aO
 obtain⟨M,hM⟩:=exE aZ
 obtain⟨S,hS⟩:=exE aV
 obtain⟨V,hV⟩:=exE aS
 obtain⟨X,hX⟩:=exE bR
 try rw[← hF]
 try rw[← hM]
 try rw[← hS]
 try rw[← hV]
 try rw[← hX]
 try rw[← hA]
 unfold C9 at hg
 split at hg
 ·simp only[Option.some.injEq] at hg
  subst hg
  rename_i x y
  cbv
  subst hV hA
  exact hk _ _ (iW.one (t:=0) rfl (fun ρ=>H5 rfl) rfl rfl rfl (aF rfl))
 ·simp only[Option.some.injEq] at hg
  subst hg
  rename_i x y b
  cbv
  subst hV hA
  exact hk _ _ (iW.one (t:=0) rfl (fun ρ=>H5 rfl) rfl rfl rfl (aF rfl))
 ·cases hg
def yA (F:SF):List CV→List Blk→Option LR
 | [.g [.R r]],[]=>some ⟨[], .c (.g [.R (F.neg r)]),[]⟩
 | _,_=>none
theorem Bu:aJ Tryz.prog 232 (aC [.v] aA (yA aO)):=by
 refine aH (un:=⟨false,some [1,2]⟩) tok Au aL (fn:=Tryz.f232) ?_
 intro w Wr args bs r hg ho hWr A L k hA hL hk
 obtain⟨F,hF⟩:=exE aO
 obtain⟨M,hM⟩:=exE aZ
 obtain⟨S,hS⟩:=exE aV
 obtain⟨V,hV⟩:=exE aS
 obtain⟨X,hX⟩:=exE bR
 try rw[← hF]
 try rw[← hM]
 try rw[← hS]
 try rw[← hV]
 try rw[← hX]
 try rw[← hA]
 unfold yA at hg
 split at hg <;> cases hg
 rename_i r
 cbv
 refine hk _ _ (bE.pure rfl fun ρ=>?_)
 subst hS hF
 exact yR rfl
def RQ (A:Alg) (S:SW) (V:SV) (X:SX) (M:SM) (F:SF):List (Nat×bU):=(153,aC [.v, .v] A (Bd F)) :: (161,cM [.v, .v, .pw] A (C9 A V)) :: (232,aC [.v] A (yA F)) :: ((RP A S V X M F))
theorem Ex:COK Tryz.prog (aN (RQ aA aV aS bR aZ aO)):=aB Ks (aB DH (aB Bu (Au)))
structure Ss (A:Alg) (S:SW) (V:SV) (F:SF) (a b:Rt):Prop where
 sm:A.ite (F.smOK a) (F.smOK b) false=true→HJ aA a b∧F.two a b=true
 no:A.not (F.all [a,b])=true→F.two a b=false
 ok:A.not (F.all [a,b])=false→RB a b∧F.two a b=true
theorem Hy (a b:Rt) (A:Alg) (hA:A=aA) (S:SW) (V:SV) (F:SF) (hF:F=aO):Ss A S V F a b:=by
 subst hA hF
 have hall:aO.all [a,b]=dK a b:=by
  show(cQ a 500&&(cQ b 500&&true))=(cQ a 500&&cQ b 500)
  rw[Bool.and_true]
 refine⟨fun h=>?_,fun h=>?_,fun h=>?_⟩
 ·have h:(if smB a=true then smB b else false)=true:=h
  cases ha:smB a
  ·rw[ha] at h;cases h
  ·rw[ha] at h
   exact⟨Er ha h aA rfl,H7 ha h⟩
 ·have h:(!aO.all [a,b])=true:=h
  rw[hall,Bool.not_eq_true'] at h
  exact h
 ·have h:(!aO.all [a,b])=false:=h
  rw[hall,Bool.not_eq_false'] at h
  exact⟨IH h,h⟩
def A1 (F:SF):List CV→List Blk→Option LR
 | [.g [.R a], .g [.R b]],[]=>some ⟨[], .t [.s (.int .i64 (F.cmp a b)), .s (.bool (F.two a b))],[]⟩
 | _,_=>none
theorem Kl:aJ Tryz.prog 174 (aC [.v, .v] aA (A1 aO)):=by
 refine aH (un:=⟨false,some [2,3,4,5,6,7,8,9,10,11,17,33]⟩) tok Ex aL (fn:=Tryz.f174) ?_
 intro w Wr args bs r hg ho hWr A L k hA hL hk
 obtain⟨F,hF⟩:=exE aO
 obtain⟨M,hM⟩:=exE aZ
 obtain⟨S,hS⟩:=exE aV
 obtain⟨V,hV⟩:=exE aS
 obtain⟨X,hX⟩:=exE bR
 try rw[← hF]
 try rw[← hM]
 try rw[← hS]
 try rw[← hV]
 try rw[← hX]
 try rw[← hA]
 unfold A1 at hg
 split at hg <;> cases hg
 rename_i a b
 have tf:=Hy a b A hA S V F hF
 have al2:A.cmp .lss (A.len [a,b]) 1000000=true:=bH A hA _ _ (by subst hA;show(2:Int) < 1000000;omega)
 cbv
 repeat' with_reducible first | (intro hb;cbv) | refine UM ?_ ?_
 ·have e:=tf.sm hb
  refine hk _ _ (bE.pure rfl fun ρ=>?_)
  subst hA hF
  refine EE ?_ e.2.symm
  show sgn _ _=if dK a b=true then cZ (bI a) (bI b) else 0
  rw[if_pos (show dK a b=true from e.2)]
  exact e.1.c
 ·exact al2
 ·have e:=tf.no hb
  refine hk _ _ (bE.pure rfl fun ρ=>?_)
  subst hA hF
  refine EF ?_ e.symm
  show 0=if dK a b=true then cZ (bI a) (bI b) else 0
  rw[if_neg (by rw[show dK a b=false from e];decide)]
 ·have e:=tf.ok hb
  refine hk _ _ (bE.pure rfl fun ρ=>?_)
  subst hA hF hS hV
  refine BR ?_ ?_
  ·show _=if dK a b=true then cZ (bI a) (bI b) else 0
   rw[if_pos (show dK a b=true from e.2)]
   exact e.1.cmp
  ·show aA.ite (aS.mulOK a.N b.D) (aS.mulOK b.N a.D) false=aO.two a b
   rw[e.1.m1,e.1.m2,e.2];rfl
theorem atQ {a b:Rt} (h:dK a b=true) (q:Rat):(if dK a b=true then ofQ q else cN)=ofQ q:=if_pos h
theorem HB {a b:Rt} (h:dK a b=false) (q:Rat):cN=(if dK a b=true then ofQ q else cN):=by rw[h];rfl
def A0 (F:SF):List CV→List Blk→Option LR
 | [.g [.R a], .g [.R b]],[]=>some ⟨[], .t [.g [.R (F.add a b)], .s (.bool (F.two a b))],[]⟩
 | _,_=>none
theorem Kj:aJ Tryz.prog 156 (aC [.v, .v] aA (A0 aO)):=by
 refine aH (un:=⟨false,some [2,3,4,5,6,7,8,9,10,11,12,13,14,20,42,70]⟩) tok Ex aL (fn:=Tryz.f156) ?_
 intro w Wr args bs r hg ho hWr A L k hA hL hk
 obtain⟨F,hF⟩:=exE aO
 obtain⟨M,hM⟩:=exE aZ
 obtain⟨S,hS⟩:=exE aV
 obtain⟨V,hV⟩:=exE aS
 obtain⟨X,hX⟩:=exE bR
 try rw[← hF]
 try rw[← hM]
 try rw[← hS]
 try rw[← hV]
 try rw[← hX]
 try rw[← hA]
 unfold A0 at hg
 split at hg <;> cases hg
 rename_i a b
 have tf:=Hy a b A hA S V F hF
 have al2:A.cmp .lss (A.len [a,b]) 1000000=true:=bH A hA _ _ (by subst hA;show(2:Int) < 1000000;omega)
 cbv
 repeat' with_reducible first | (intro hb;cbv) | refine UM ?_ ?_
 all_goals first | exact al2 | (subst hA hF;exact(tf.sm hb).1.o1) | (subst hA hF;exact(tf.sm hb).1.o2) | (subst hA hF;exact(tf.sm hb).1.o3) | skip
 ·have e:=tf.sm hb
  refine hk _ _ (bE.pure rfl fun ρ=>?_)
  subst hA hF
  exact kP (e.1.add.trans (atQ e.2 _).symm) e.2.symm
 ·have e:=tf.no hb
  refine hk _ _ (bE.pure rfl fun ρ=>?_)
  subst hA hF
  exact kP (HB e _) e.symm
 ·exfalso
  rename_i h1 h2
  have e:=(tf.ok h2).1
  subst hA hF hS hV
  rw[e.m1,e.m2,e.m3,e.ad] at hb
  cases hb
 ·rename_i h1 h2
  have e:=tf.ok h2
  refine hk _ _ (bE.pure rfl fun ρ=>?_)
  subst hA hF hV
  exact xA (e.1.add.1.trans (atQ e.2 _).symm) (e.1.add.2.trans e.2.symm)
def RR (A:Alg) (S:SW) (V:SV) (X:SX) (M:SM) (F:SF):List (Nat×bU):=(174,aC [.v, .v] A (A1 F)) :: (156,aC [.v, .v] A (A0 F)) :: ((RQ A S V X M F))
theorem Av:COK Tryz.prog (aN (RR aA aV aS bR aZ aO)):=aB Kl (aB Kj (Ex))
def Be (F:SF):List CV→List Blk→Option LR
 | [.g [.R a], .g [.R b]],[]=>some ⟨[], .t [.g [.R (F.sub a b)], .s (.bool (F.two a b))],[]⟩
 | _,_=>none
theorem Lp {a b:Rt} (h:dK a b=true):aO.add a (aO.neg b)=ofQ (bI a - bI b)∧aO.two a (aO.neg b)=true:=by
 obtain⟨ha,hb⟩:=eY h
 obtain⟨n1,n2⟩:=Qc hb
 have h2:dK a (aO.neg b)=true:=by
  unfold dK
  rw[l5 ha (by decide),l5 n1 (by decide)];rfl
 refine⟨?_,h2⟩
 show(if dK a (aO.neg b)=true then ofQ (bI a+bI (aO.neg b)) else cN)=_
 rw[if_pos h2,n2,Rat.sub_eq_add_neg]
theorem Ku:aJ Tryz.prog 230 (aC [.v, .v] aA (Be aO)):=by
 refine aH (un:=⟨false,some [2,3,4,5,6,7,8,14,36]⟩) tok Av aL (fn:=Tryz.f230) ?_
 intro w Wr args bs r hg ho hWr A L k hA hL hk
 obtain⟨F,hF⟩:=exE aO
 obtain⟨M,hM⟩:=exE aZ
 obtain⟨S,hS⟩:=exE aV
 obtain⟨V,hV⟩:=exE aS
 obtain⟨X,hX⟩:=exE bR
 try rw[← hF]
 try rw[← hM]
 try rw[← hS]
 try rw[← hV]
 try rw[← hX]
 try rw[← hA]
 unfold Be at hg
 split at hg <;> cases hg
 rename_i a b
 have tf:=Hy a b A hA S V F hF
 have al2:A.cmp .lss (A.len [a,b]) 1000000=true:=bH A hA _ _ (by subst hA;show(2:Int) < 1000000;omega)
 cbv
 repeat' with_reducible first | (intro hb;cbv) | refine UM ?_ ?_
 all_goals first | exact al2 | (subst hA hF;exact(tf.sm hb).1.o4) | (subst hA hF;exact(tf.sm hb).1.o2) | (subst hA hF;exact(tf.sm hb).1.o3) | skip
 ·have e:=tf.sm hb
  refine hk _ _ (bE.pure rfl fun ρ=>?_)
  subst hA hF
  exact kP (e.1.sub.trans (atQ e.2 _).symm) e.2.symm
 ·have e:=tf.no hb
  refine hk _ _ (bE.pure rfl fun ρ=>?_)
  subst hA hF
  exact kP (HB e _) e.symm
 ·have e:=tf.ok hb
  refine hk _ _ (bE.pure rfl fun ρ=>?_)
  subst hA hF
  have n:=Lp e.2
  exact xA (n.1.trans (atQ e.2 _).symm) (n.2.trans e.2.symm)
def Bc (F:SF):List CV→List Blk→Option LR
 | [.g [.R a], .g [.R b]],[]=>some ⟨[], .t [.g [.R (F.mul a b)], .s (.bool (F.two a b))],[]⟩
 | _,_=>none
theorem Kq:aJ Tryz.prog 231 (aC [.v, .v] aA (Bc aO)):=by
 refine aH (un:=⟨false,some [2,3,4,5,6,7,8,9,10,11,17,33,46]⟩) tok Av aL (fn:=Tryz.f231) ?_
 intro w Wr args bs r hg ho hWr A L k hA hL hk
 obtain⟨F,hF⟩:=exE aO
 obtain⟨M,hM⟩:=exE aZ
 obtain⟨S,hS⟩:=exE aV
 obtain⟨V,hV⟩:=exE aS
 obtain⟨X,hX⟩:=exE bR
 try rw[← hF]
 try rw[← hM]
 try rw[← hS]
 try rw[← hV]
 try rw[← hX]
 try rw[← hA]
 unfold Bc at hg
 split at hg <;> cases hg
 rename_i a b
 have tf:=Hy a b A hA S V F hF
 have al2:A.cmp .lss (A.len [a,b]) 1000000=true:=bH A hA _ _ (by subst hA;show(2:Int) < 1000000;omega)
 cbv
 repeat' with_reducible first | (intro hb;cbv) | refine UM ?_ ?_
 all_goals first | exact al2 | (subst hA hF;exact(tf.sm hb).1.o5) | (subst hA hF;exact(tf.sm hb).1.o2) | (subst hA hF;exact(tf.sm hb).1.o3) | skip
 ·have e:=tf.sm hb
  refine hk _ _ (bE.pure rfl fun ρ=>?_)
  subst hA hF
  exact kP (e.1.mul.trans (atQ e.2 _).symm) e.2.symm
 ·have e:=tf.no hb
  refine hk _ _ (bE.pure rfl fun ρ=>?_)
  subst hA hF
  exact kP (HB e _) e.symm
 ·exfalso
  rename_i h1 h2
  have e:=(tf.ok h2).1
  subst hA hF hS hV
  rw[e.m3,e.m4] at hb
  cases hb
 ·rename_i h1 h2
  have e:=tf.ok h2
  refine hk _ _ (bE.pure rfl fun ρ=>?_)
  subst hA hF hV
  exact xA (e.1.mul.1.trans (atQ e.2 _).symm) (e.1.mul.2.trans e.2.symm)
def A9 (F:SF):List CV→List Blk→Option LR
 | [.g [.R a], .g [.R b]],[]=>some ⟨[], .t [.g [.R (F.div a b)], .s (.bool (F.divOK a b))],[]⟩
 | _,_=>none
structure Sl (A:Alg) (V:SV) (F:SF) (a b:Rt):Prop where
 sm:A.ite (A.ite (F.smOK a) (F.smOK b) false) (A.cmp .neq (F.smN b) 0) false=true→F.b62 (A.bin .mul .i64 (F.smN a) (F.smD b))=true∧F.b62 (A.bin .mul .i64 (F.smD a) (F.smN b))=true∧A.cmp .neq (A.bin .mul .i64 (F.smD a) (F.smN b)) 0=true∧
  F.made (A.bin .mul .i64 (F.smN a) (F.smD b)) (A.bin .mul .i64 (F.smD a) (F.smN b))=F.div a b∧true=F.divOK a b
 no:A.ite (A.not (F.all [a,b])) true (A.cmp .eql (F.sign b) 0)=true→cN=F.div a b∧false=F.divOK a b
 ok:A.ite (A.not (F.all [a,b])) true (A.cmp .eql (F.sign b) 0)=false→V.mulOK a.N b.D=true∧V.mulOK a.D b.N=true∧F.new (V.mul a.N b.D) (V.mul a.D b.N)=F.div a b∧F.newOK (V.mul a.N b.D) (V.mul a.D b.N)=F.divOK a b
theorem PJ (a b:Rt) (A:Alg) (hA:A=aA) (V:SV) (hV:V=aS) (F:SF) (hF:F=aO):Sl A V F a b:=by
 subst hA hV hF
 have hdiv: ∀ c,(dK a b&&decide (bI b≠0))=c→aO.div a b=(if c=true then ofQ (bI a / bI b) else cN)∧aO.divOK a b=c:=fun c h=>by
  constructor
  ·show(if(dK a b&&decide (bI b≠0))=true then _ else _)=_
   rw[h]
  ·exact h
 have hall:aO.all [a,b]=dK a b:=by
  show(cQ a 500&&(cQ b 500&&true))=(cQ a 500&&cQ b 500)
  rw[Bool.and_true]
 refine⟨fun h=>?_,fun h=>?_,fun h=>?_⟩
 ·have h:(if(if smB a=true then smB b else false)=true then aA.cmp .neq (aO.smN b) 0 else false)=true:=h
  cases ha:smB a
  ·rw[ha] at h;cases h
  ·cases hb:smB b
   ·rw[ha,hb] at h;cases h
   ·rw[ha,hb] at h
    have h:aA.cmp .neq (aO.smN b) 0=true:=h
    have s:=Er ha hb aA rfl
    have hz:=s.z
    rw[h] at hz
    obtain⟨d1,d2⟩:=hdiv true (by rw[H7 ha hb, ← hz];rfl)
    exact⟨s.o6,s.o7,s.o8 h,by rw[d1];exact s.div,d2.symm⟩
 ·rw[hall] at h
  have h:(if(!dK a b)=true then true else(sgn (aK b.N) 0 == 0))=true:=h
  have hc:(dK a b&&decide (bI b≠0))=false:=by
   cases ht:dK a b
   ·rfl
   ·rw[ht] at h
    have h:(sgn (aK b.N) 0 == 0)=true:=h
    rw[beq_iff_eq] at h
    have hb:=(eY ht).2
    have:aK b.N=0:=by
     unfold sgn at h
     split at h
     ·omega
     ·split at h
      ·omega
      ·omega
    rw[decide_eq_false (by simp[(fM hb.is).2 this])];rfl
  obtain⟨d1,d2⟩:=hdiv false hc
  exact⟨d1.symm,d2.symm⟩
 ·rw[hall] at h
  have h:(if(!dK a b)=true then true else(sgn (aK b.N) 0 == 0))=false:=h
  cases ht:dK a b
  ·rw[ht] at h;cases h
  ·rw[ht] at h
   have h:(sgn (aK b.N) 0 == 0)=false:=h
   rw[beq_eq_false_iff_ne] at h
   have hb:=(eY ht).2
   have hn:bI b≠0:=fun h0=>by
    have:=(fM hb.is).1 h0
    rw[this] at h
    exact h rfl
   obtain⟨d1,d2⟩:=hdiv true (by rw[ht,decide_eq_true hn];rfl)
   have e:=IH ht
   exact⟨e.m1,e.m5,by rw[d1];exact(e.div hn).1,by rw[d2];exact(e.div hn).2⟩
theorem Kn:aJ Tryz.prog 125 (aC [.v, .v] aA (A9 aO)):=by
 refine aH (un:=⟨false,some [2,3,4,5,6,7,8,9,10,11,22,43,56]⟩) tok Av aL (fn:=Tryz.f125) ?_
 intro w Wr args bs r hg ho hWr A L k hA hL hk
 obtain⟨F,hF⟩:=exE aO
 obtain⟨M,hM⟩:=exE aZ
 obtain⟨S,hS⟩:=exE aV
 obtain⟨V,hV⟩:=exE aS
 obtain⟨X,hX⟩:=exE bR
 try rw[← hF]
 try rw[← hM]
 try rw[← hS]
 try rw[← hV]
 try rw[← hX]
 try rw[← hA]
 unfold A9 at hg
 split at hg <;> cases hg
 rename_i a b
 have tf:=PJ a b A hA V hV F hF
 have al2:A.cmp .lss (A.len [a,b]) 1000000=true:=bH A hA _ _ (by subst hA;show(2:Int) < 1000000;omega)
 cbv
 repeat' with_reducible first | (intro hb;cbv) | refine UM ?_ ?_
 all_goals first | exact al2 | exact(tf.sm hb).1 | exact(tf.sm hb).2.1 | exact(tf.sm hb).2.2.1 | skip
 ·have e:=(tf.sm hb).2.2.2
  refine hk _ _ (bE.pure rfl fun ρ=>?_)
  subst hF
  exact kP e.1 e.2
 ·have e:=tf.no hb
  refine hk _ _ (bE.pure rfl fun ρ=>?_)
  subst hF
  exact kP e.1 e.2
 ·exfalso
  rename_i h1 h2
  have e:=tf.ok h2
  subst hA
  rw[e.1,e.2.1] at hb
  cases hb
 ·rename_i h1 h2
  have e:=(tf.ok h2).2.2
  refine hk _ _ (bE.pure rfl fun ρ=>?_)
  subst hF
  exact xA e.1 e.2
def RS (A:Alg) (S:SW) (V:SV) (X:SX) (M:SM) (F:SF):List (Nat×bU):=(230,aC [.v, .v] A (Be F)) :: (231,aC [.v, .v] A (Bc F)) :: (125,aC [.v, .v] A (A9 F)) :: ((RR A S V X M F))
theorem agX:COK Tryz.prog (aN (RS aA aV aS bR aZ aO)):=aB Ku (aB Kq (aB Kn (Av)))
def Mm (A:Alg) (S:SW) (F:SF):List CV→List Blk→Option LR
 | [.s (.int .i64 n), .s (.int .i64 d)],[]=>some ⟨[A.cmp .leq (-9223372036854775808) n,A.cmp .lss n 9223372036854775808,A.cmp .leq (-9223372036854775808) d,A.cmp .lss d 9223372036854775808], .t [.g [.R (F.new (S.from64 n) (S.from64 d))], .s (.bool (F.newOK (S.from64 n) (S.from64 d)))],[]⟩
 | _,_=>none
theorem NZ:aJ Tryz.prog 122 (aC [.v, .v] aA (Mm aA aV aO)):=by
 refine aH (un:=⟨false,some [0,1,4,5]⟩) tok agX aL (fn:=Tryz.f122) ?_
 intro w Wr args bs r hg ho hWr A L k hA hL hk
 obtain⟨F,hF⟩:=exE aO
 obtain⟨M,hM⟩:=exE aZ
 obtain⟨S,hS⟩:=exE aV
 obtain⟨V,hV⟩:=exE aS
 obtain⟨X,hX⟩:=exE bR
 try rw[← hF]
 try rw[← hM]
 try rw[← hS]
 try rw[← hV]
 try rw[← hX]
 try rw[← hA]
 unfold Mm at hg
 split at hg <;> cases hg
 have o1:=(aG ho).1
 have o2:=(aG (aG ho).2).1
 have o3:=(aG (aG (aG ho).2).2).1
 have o4:=(aG (aG (aG (aG ho).2).2).2).1
 clear ho
 rw[← hA] at o1 o2 o3 o4
 cbv
 repeat' with_reducible first | (intro hb;cbv) | refine UM ?_ ?_
 all_goals first | exact o1 | exact o2 | exact o3 | exact o4 | skip
 refine hk _ _ (bE.pure rfl fun ρ=>?_)
 subst hF hS
 exact xA rfl rfl
def RT (A:Alg) (S:SW) (V:SV) (X:SX) (M:SM) (F:SF):List (Nat×bU):=(122,aC [.v, .v] A (Mm A S F)) :: ((RS A S V X M F))
theorem Ey:COK Tryz.prog (aN (RT aA aV aS bR aZ aO)):=aB NZ (agX)
def JP (A:Alg) (F:SF):List CV→List Blk→Option LR
 | [.s (.hs 0)],[.vec false .rt l]=>some ⟨[A.cmp .lss (A.len l) 1000000], .t [.g [.R (F.sum l)], .s (.bool (F.sumOK l))],[]⟩
 | _,_=>none
def SuI (l:List Rt) (k:Int) (a:Rt):Prop:=0≤k∧k≤l.length∧w9 ⟨anH,aV.from64 1⟩ l=w9 a (l.drop k.toNat)
theorem wL (a w:Rt) (r:List Rt) (b:Bool) (h:dK a w=b):w9 a (w :: r)=match b with
  | true=>w9 (ofQ (bI a+bI w)) r
  | false=>(cN,false):=by
 rw[w9]
 cases b <;> simp only[h]
theorem Eu {l:List Rt} {r:Rt×Bool} (h:w9 ⟨anH,aV.from64 1⟩ l=r):aO.sum l=r.1∧aO.sumOK l=r.2:=by
 subst h;exact⟨rfl,rfl⟩
structure MT (A:Alg) (F:SF) (l:List Rt) (k:Int) (a w:Rt):Prop where
 o1:A.cmp .leq 0 k=true
 no:A.not (F.two a w)=true→cN=F.sum l∧false=F.sumOK l
 nx:A.not (F.two a w)=false→SuI l (k+1) (F.add a w)
 ad:A.bin .add .i64 k 1=k+1
 ms:((l.length:Int) - (k+1)).toNat < ((l.length:Int) - k).toNat
theorem Ln {l:List Rt} (hn:l.length < 1000000) {k:Int} {a:Rt} (hI:SuI l k a) (A:Alg) (hA:A=aA) (F:SF) (hF:F=aO) (hb:A.cmp .lss k (A.len l)=true) (w:Rt) (hw:w=A.get l k ⟨⟨false,A.zD⟩,⟨false,A.zD⟩⟩):MT A F l k a w:=by
 subst hA hF
 have hb:k < (l.length:Int):=of_decide_eq_true hb
 obtain⟨k0,k1,h⟩:=hI
 have hlt:k.toNat < l.length:=by omega
 have er:w=l[k.toNat]:=by
  rw[hw]
  show(l[k.toNat]?).getD _=_
  rw[List.getElem?_eq_getElem hlt];rfl
 have hd:l.drop k.toNat=w :: l.drop (k+1).toNat:=by
  rw[show(k+1).toNat=k.toNat+1 by omega,List.drop_eq_getElem_cons hlt,er]
 rw[hd] at h
 exact {
  o1:=bJ _ rfl _ _ k0
  no:=fun h'=>by
   have h':(!dK a w)=true:=h'
   rw[Bool.not_eq_true'] at h'
   rw[wL _ _ _ _ h'] at h
   obtain⟨e1,e2⟩:=Eu h
   exact⟨e1.symm,e2.symm⟩
  nx:=fun h'=>by
   have h':(!dK a w)=false:=h'
   rw[Bool.not_eq_false'] at h'
   rw[wL _ _ _ _ h'] at h
   refine⟨by omega,by omega,?_⟩
   have:aO.add a w=ofQ (bI a+bI w):=by show(if dK a w=true then _ else _)=_;rw[h'];rfl
   rw[this];exact h
  ad:=by show aD .add .i64 k 1=k+1;simp only[aD,IntKind.wrap_i64];omega
  ms:=by omega }
theorem Ot {l:List Rt} {k:Int} {a:Rt} (hI:SuI l k a) (A:Alg) (hA:A=aA) (F:SF) (hF:F=aO) (hb:A.cmp .lss k (A.len l)=false):a=F.sum l∧true=F.sumOK l:=by
 subst hA hF
 have hb: ¬ k < (l.length:Int):=of_decide_eq_false hb
 obtain⟨k0,k1,h⟩:=hI
 rw[List.drop_eq_nil_of_le (by omega)] at h
 obtain⟨e1,e2⟩:=Eu h
 exact⟨e1.symm,e2.symm⟩
theorem Kv:aJ Tryz.prog 124 (aC [.s .rt] aA (JP aA aO)):=by
 refine aH (un:=⟨false,some [0,2,3,4,6,7,8,11,12,13,14,24]⟩) tok Ey aL (fn:=Tryz.f124) ?_
 intro w Wr args bs r hg ho hWr A L k hA hL hk
 obtain⟨F,hF⟩:=exE aO
 obtain⟨M,hM⟩:=exE aZ
 obtain⟨S,hS⟩:=exE aV
 obtain⟨V,hV⟩:=exE aS
 obtain⟨X,hX⟩:=exE bR
 try rw[← hF]
 try rw[← hM]
 try rw[← hS]
 try rw[← hV]
 try rw[← hX]
 try rw[← hA]
 unfold JP at hg
 split at hg <;> cases hg
 rename_i l
 have hlen:=(aG ho).1
 simp only[aA,aP,decide_eq_true_eq] at hlen
 have hlen:l.length < 1000000:=by omega
 clear ho
 have i0:SuI l 0 ⟨anH,aV.from64 1⟩:=⟨Int.le_refl 0,Int.natCast_nonneg _,rfl⟩
 cbv
 refine hL _ _ _ (aQ (un:=⟨false,some [0,2,3,4,6,7,8,11,12,13,14,24]⟩) tok Ey aL (fun p:Int×Rt=>⟨[(13,⟨[], .c (.s (.int .i64 p.1))⟩),(12,⟨[], .c (.s (.int .i64 (aA.len l)))⟩),(11,⟨[], .c (.s (.hs 0))⟩),(4,⟨[], .c (.s (.hp 2 0))⟩),(2,⟨[], .c (.s (.hp 1 0))⟩)],[(0, .vec false .rt l),(1, .fix true [.R ⟨⟨false,Dg.zero⟩,⟨false,Dg.zero⟩⟩]),(2, .fix true [.R p.2])],3⟩)
  (fun p=>SuI l p.1 p.2) (fun p=>((l.length:Int) - p.1).toNat) (0,⟨anH,aV.from64 1⟩) i0 ?_ (fun _ i hi=>by have:=hWr i hi;simp at this ⊢;omega) ?_)
 ·subst hA;subst hS
  exact⟨⟨⟨rfl,rfl,fun _=>rfl⟩,⟨rfl,rfl,fun _=>rfl⟩,⟨rfl,rfl,fun _=>rfl⟩,⟨rfl,rfl,fun _=>rfl⟩,⟨rfl,rfl,fun _=>rfl⟩,trivial⟩,⟨aF rfl,aF rfl,aF rfl,trivial⟩,rfl,rfl⟩
 rintro⟨k,a⟩ hI A2 L2 k2 hA2 hL2 hnext hexit hret
 have st:=fun hb:A2.cmp .lss k (A2.len l)=true=>Ln hlen hI A2 hA2 F hF hb _ rfl
 have en:=fun hb:A2.cmp .lss k (A2.len l)=false=>Ot hI A2 hA2 F hF hb
 clear hI i0
 rw[← hA2, ← hS, ← hV, ← hX, ← hM, ← hF]
 cbv
 repeat' with_reducible first | (intro hb;cbv) | refine UM ?_ ?_
 all_goals first | exact(st hb).o1 | exact hb | skip
 ·rename_i hb0
  have e:=(st hb0).no hb
  apply hret
  clear hexit hnext hret st en
  cbv
  refine hk _ _ (bE.pure rfl fun ρ=>?_)
  subst hF
  exact kP e.1 e.2
 ·rename_i hb0
  refine hnext _ (k+1,_) ((st hb0).nx hb) (st hb0).ms ?_
  have ead:=(st hb0).ad
  subst hA2
  exact⟨⟨⟨rfl,rfl,leI ead⟩,⟨rfl,rfl,fun _=>rfl⟩,⟨rfl,rfl,fun _=>rfl⟩,⟨rfl,rfl,fun _=>rfl⟩,⟨rfl,rfl,fun _=>rfl⟩,trivial⟩,⟨aF rfl,aF rfl,aF rfl,trivial⟩,rfl,rfl⟩
 ·have e:=en hb
  apply hexit
  clear hexit hnext hret st en
  cbv
  refine hk _ _ (bE.pure rfl fun ρ=>?_)
  subst hF
  exact kP e.1 e.2
def RU (A:Alg) (S:SW) (V:SV) (X:SX) (M:SM) (F:SF):List (Nat×bU):=(124,aC [.s .rt] A (JP A F)) :: ((RT A S V X M F))
theorem Aw:COK Tryz.prog (aN (RU aA aV aS bR aZ aO)):=aB Kv (Ey)
end Go.Eng
