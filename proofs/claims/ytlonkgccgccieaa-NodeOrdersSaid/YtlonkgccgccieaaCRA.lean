
import Derived.Test.YtlonkgccgccieaaCMA
import Derived.Test.YtlonkgccgccieaaSpecMA
import Derived.Test.YtlonkgccgccieaaSpecFA
import Derived.Test.YtlonkgccgccieaaCMB
set_option linter.all false
set_option exponentiation.threshold 3000
set_option maxRecDepth 100000
set_option maxHeartbeats 2000000
namespace Go.Eng
open Go.Proofs
def PO (F:SF):List CV→List Blk→Option LR
 | [.s (.int .i64 a), .s (.int .i64 b)],[]=>some ⟨[F.b62 a,F.b62 b], .c (.s (.int .i64 (F.com a b))),[]⟩
 | _,_=>none
theorem iL {n:Int} :aO.b62 n=true↔ -4611686018427387904≤n∧n≤4611686018427387904:=by
 show(decide (-4611686018427387904≤n)&&decide (n≤4611686018427387904))=true↔_
 rw[Bool.and_eq_true,decide_eq_true_eq,decide_eq_true_eq]
structure CoI (a0 b0 a b:Int):Prop where
 a1:0≤a
 a2:a≤4611686018427387904
 b1:0≤b
 b2:b≤4611686018427387904
 eq:Nat.gcd a.toNat b.toNat=Nat.gcd a0.natAbs b0.natAbs
structure MB (A:Alg) (a0 b0 a b:Int):Prop where
 nx:CoI a0 b0 b (A.bin .rem .i64 a b)
 ms:(A.bin .rem .i64 a b).toNat < b.toNat
theorem IS {a0 b0 a b:Int} (hI:CoI a0 b0 a b) (A:Alg) (hA:A=aA) (hb:A.cmp .neq b 0=true):MB A a0 b0 a b:=by
 subst hA
 have hb:(b != 0)=true:=hb
 simp only[bne_iff_ne,ne_eq] at hb
 obtain⟨a1,a2,b1,b2,heq⟩:=hI
 have e:aA.bin .rem .i64 a b=((a.toNat % b.toNat:Nat):Int):=by
  show a.tmod b=_
  rw[Int.tmod_eq_emod_of_nonneg a1,Int.natCast_emod,Int.toNat_of_nonneg a1,Int.toNat_of_nonneg b1]
 have hlt:=Nat.mod_lt a.toNat (show 0 < b.toNat by omega)
 refine⟨?_,by rw[e,Int.toNat_natCast];exact hlt⟩
 rw[e]
 refine⟨b1,b2,by omega,by omega,?_⟩
 rw[Int.toNat_natCast, ← heq,Nat.gcd_comm b.toNat, ← Nat.gcd_rec,Nat.gcd_comm]
theorem M4 {a0 b0 a b:Int} (hI:CoI a0 b0 a b) (A:Alg) (hA:A=aA) (F:SF) (hF:F=aO) (hb:A.cmp .neq b 0=false):a=F.com a0 b0:=by
 subst hA hF
 have hb:(b != 0)=false:=hb
 simp only[bne_eq_false_iff_eq] at hb
 obtain⟨a1,a2,b1,b2,heq⟩:=hI
 rw[hb] at heq
 show a=((Nat.gcd a0.natAbs b0.natAbs:Nat):Int)
 rw[← heq]
 show a=((Nat.gcd a.toNat 0:Nat):Int)
 rw[Nat.gcd_zero_right];omega
theorem HV {a:Int} (h1: -4611686018427387904≤a) (h2:a≤4611686018427387904):aA.mx a (aA.bin .sub .i64 0 a)=(a.natAbs:Int):=by
 have e:aA.bin .sub .i64 0 a= -a:=by show aD .sub .i64 0 a= -a;simp only[aD,IntKind.wrap_i64];omega
 rw[e]
 show(if -a > a then -a else a)=_
 split <;> omega
theorem IR {a b:Int} (ha: -4611686018427387904≤a∧a≤4611686018427387904) (hb: -4611686018427387904≤b∧b≤4611686018427387904) (A:Alg) (hA:A=aA):CoI a b (A.mx a (A.bin .sub .i64 0 a)) (A.mx b (A.bin .sub .i64 0 b)):=by
 subst hA
 rw[HV ha.1 ha.2,HV hb.1 hb.2]
 exact⟨by omega,by omega,by omega,by omega,by rw[Int.toNat_natCast,Int.toNat_natCast]⟩
def tF0 (A:Alg) (S:SW) (V:SV) (X:SX) (M:SM):List (Nat×bU):=((tM3 A S V X))
theorem Lr:COK Try.prog (aN (tF0 aA aV aS bR aZ)):=Hr
theorem Km:aJ Try.prog 159 (aC [.v, .v] aA (PO aO)):=by
 refine aH (un:=⟨false,some [0,1,4,14]⟩) tok Lr aL (fn:=Try.f159) ?_
 intro w Wr args bs r hg ho hWr A L k hA hL hk
 obtain⟨F,hF⟩:=exE aO
 obtain⟨M,hM⟩:=exE aZ
 obtain⟨S,hS⟩:=exE aV
 obtain⟨V,hV⟩:=exE aS
 obtain⟨X,hX⟩:=exE bR
 try rw[← hF]
 try rw[← hM]
 try rw[← hS]
 try rw[← hV]
 try rw[← hX]
 try rw[← hA]
 unfold PO at hg
 split at hg <;> cases hg
 rename_i a b
 have ha:=iL.1 ((aG ho).1)
 have hb:=iL.1 ((aG (aG ho).2).1)
 clear ho
 have i0:=IR ha hb A hA
 cbv
 refine hL _ _ _ (aQ (un:=⟨false,some [0,1,4,14]⟩) tok Lr aL (fun p:Int×Int=>⟨[(1,⟨[], .c (.s (.int .i64 p.2))⟩),(0,⟨[], .c (.s (.int .i64 p.1))⟩)],[],0⟩)
  (fun p=>CoI a b p.1 p.2) (fun p=>p.2.toNat) (_,_) i0 ?_ (fun _ i hi=>by have:=hWr i hi;simp at this) ?_)
 ·exact⟨⟨⟨rfl,rfl,fun _=>rfl⟩,⟨rfl,rfl,fun _=>rfl⟩,trivial⟩,trivial,rfl,rfl⟩
 clear i0
 rintro⟨x,y⟩ hI A2 L2 k2 hA2 hL2 hnext hexit hret
 have st:=fun hb=>IS hI A2 hA2 hb
 have en:=fun hb=>M4 hI A hA F hF (by rw[hA, ← hA2];exact hb)
 clear hI
 rw[← hA2, ← hS, ← hV, ← hX, ← hM]
 cbv
 repeat' with_reducible first | (intro hb;cbv) | refine UM ?_ ?_
 all_goals first | exact hb | skip
 ·refine hnext _ (_,_) (st hb).nx (st hb).ms ?_
  exact⟨⟨⟨rfl,rfl,fun _=>rfl⟩,⟨rfl,rfl,fun _=>rfl⟩,trivial⟩,trivial,rfl,rfl⟩
 ·apply hexit
  have em:=en hb
  clear hexit hnext hret st en hb
  cbv
  refine hk _ _ (bE.pure rfl fun ρ=>?_)
  subst hF
  exact B2 em
def tF1 (A:Alg) (S:SW) (V:SV) (X:SX) (M:SM) (F:SF):List (Nat×bU):=(159,aC [.v, .v] A (PO F)) :: ((tF0 A S V X M))
theorem Oz:COK Try.prog (aN (tF1 aA aV aS bR aZ aO)):=aB Km (Lr)
def tF2 (A:Alg) (S:SW) (V:SV) (X:SX) (M:SM) (F:SF):List (Nat×bU):=((tF1 A S V X M F))
theorem OA:COK Try.prog (aN (tF2 aA aV aS bR aZ aO)):=Oz
def tF3 (A:Alg) (S:SW) (V:SV) (X:SX) (M:SM) (F:SF):List (Nat×bU):=((tF2 A S V X M F))
theorem OB:COK Try.prog (aN (tF3 aA aV aS bR aZ aO)):=OA
def PX (A:Alg):List CV→List Blk→Option LR
 | [.s (.int .i64 _)],[]=>some ⟨[], .c (.s (.bool false)),[]⟩
 | _,_=>none
def Jn (F:SF):List CV→List Blk→Option LR
 | [.s (.int .i64 a), .s (.int .i64 b)],[]=>some ⟨[], .c (.s (.int .i64 (F.cmpI a b))),[]⟩
 | _,_=>none
theorem Kr:aJ Try.prog 153 (aC [.v] aA (PX aA)):=by
 refine aH (un:=⟨false,none⟩) tok OB aL (fn:=Try.f153) ?_
 intro w Wr args bs r hg ho hWr A L k hA hL hk
 obtain⟨F,hF⟩:=exE aO
 obtain⟨M,hM⟩:=exE aZ
 obtain⟨S,hS⟩:=exE aV
 obtain⟨V,hV⟩:=exE aS
 obtain⟨X,hX⟩:=exE bR
 try rw[← hF]
 try rw[← hM]
 try rw[← hS]
 try rw[← hV]
 try rw[← hX]
 try rw[← hA]
 unfold PX at hg
 split at hg <;> cases hg
 rename_i n
 cbv
 refine hk _ _ (bE.pure rfl fun ρ=>?_)
 refine yQ ?_
 subst hA
 show(n != n)=false
 simp
def tF4 (A:Alg) (S:SW) (V:SV) (X:SX) (M:SM) (F:SF):List (Nat×bU):=(153,aC [.v] A (PX A)) :: ((tF3 A S V X M F))
theorem OC:COK Try.prog (aN (tF4 aA aV aS bR aZ aO)):=aB Kr (OB)
theorem Ga:aJ Try.prog 139 (aC [.v, .v] aA (Jn aO)):=by
 refine aH (un:=⟨false,some [0,1,4,5,6,11,13,16,19]⟩) tok OC aL (fn:=Try.f139) ?_
 intro w Wr args bs r hg ho hWr A L k hA hL hk
 obtain⟨F,hF⟩:=exE aO
 obtain⟨M,hM⟩:=exE aZ
 obtain⟨S,hS⟩:=exE aV
 obtain⟨V,hV⟩:=exE aS
 obtain⟨X,hX⟩:=exE bR
 try rw[← hF]
 try rw[← hM]
 try rw[← hS]
 try rw[← hV]
 try rw[← hX]
 try rw[← hA]
 unfold Jn at hg
 split at hg <;> cases hg
 rename_i a b
 cbv
 repeat' with_reducible first | (intro hb;cbv) | refine UM ?_ ?_
 ·exfalso
  cases hb
 ·exfalso
  cases hb
 ·have h:a < b:=by subst hA;exact of_decide_eq_true hb
  refine hk _ _ (bE.pure rfl fun ρ=>?_)
  refine Ak ?_
  show _=sgn a b
  unfold sgn
  rw[if_pos h]
 ·rename_i hb0
  have h0: ¬ a < b:=by subst hA;exact of_decide_eq_false hb0
  have h:a > b:=by subst hA;exact of_decide_eq_true hb
  refine hk _ _ (bE.pure rfl fun ρ=>?_)
  refine Ak ?_
  show _=sgn a b
  unfold sgn
  rw[if_neg h0,if_pos h]
 ·rename_i hb0
  have h0: ¬ a < b:=by subst hA;exact of_decide_eq_false hb0
  have h: ¬ a > b:=by subst hA;exact of_decide_eq_false hb
  refine hk _ _ (bE.pure rfl fun ρ=>?_)
  refine Ak ?_
  show _=sgn a b
  unfold sgn
  rw[if_neg h0,if_neg h]
def tF5 (A:Alg) (S:SW) (V:SV) (X:SX) (M:SM) (F:SF):List (Nat×bU):=(139,aC [.v, .v] A (Jn F)) :: ((tF4 A S V X M F))
theorem Ls:COK Try.prog (aN (tF5 aA aV aS bR aZ aO)):=aB Ga (OC)
def x7 (F:SF):List CV→List Blk→Option LR
 | [.s (.hp 0 0)],[.fix false [.W w]]=>some ⟨[], .t [.s (.int .i64 (F.li w)), .s (.bool (F.liOK w))],[]⟩
 | _,_=>none
structure LtI (d:Dg) (k r:Int):Prop where
 k0:0≤k
 k1:k≤31
 r0:0≤r
 r1:r < 4294967296
 eq:r=0↔d.dig 0 < 2 ^ 30∧ ∀ i,1≤i→i≤k.toNat→d.dig i=0
theorem J0 (d:Dg) (A:Alg) (hA:A=aA):LtI d 0 (A.bin .shr .u32 (A.dig d 0) 30):=by
 subst hA
 have h:=fQ d 0
 have e:aA.bin .shr .u32 (aA.dig d 0) 30=((d.dig 0 / 2 ^ 30:Nat):Int):=by
  show((d.dig (0:Int).toNat:Nat):Int).fdiv (2 ^ min (30:Int).toNat 32)=_
  rw[Int.fdiv_eq_ediv_of_nonneg _ (by decide)]
  have:((2:Int) ^ min (30:Int).toNat 32)=1073741824:=rfl
  rw[this]
  show((d.dig 0:Nat):Int) / 1073741824=_
  omega
 rw[e]
 refine⟨Int.le_refl 0,by decide,by omega,by omega,?_⟩
 constructor
 ·intro h0
  exact⟨by omega,fun i h1 h2=>by simp at h2;omega⟩
 ·intro h0
  have:=h0.1
  omega
structure MF (A:Alg) (d:Dg) (k r v:Int):Prop where
 o1:A.cmp .leq 1 32=true
 nx:LtI d (k+1) (A.bin .or .u32 r v)
 ad:A.bin .add .i64 k 1=k+1
 ms:(31 - (k+1)).toNat < (31 - k).toNat
theorem J1 {d:Dg} {k r:Int} (hI:LtI d k r) (A:Alg) (hA:A=aA) (hk:k < 31) (v:Int) (hv:v=((d.dig (k+1).toNat:Nat):Int)):MF A d k r v:=by
 subst hA hv
 obtain⟨k0,k1,r0,r1,heq⟩:=hI
 have hd:=fQ d (k+1).toNat
 have e:aA.bin .or .u32 r ((d.dig (k+1).toNat:Nat):Int)=((r.toNat||| d.dig (k+1).toNat:Nat):Int):=by
  show aD .or .u32 _ _=_
  rw[yZ _ _ r0 r1 (by omega) (by omega),Int.toNat_natCast]
 have hor:r.toNat||| d.dig (k+1).toNat < 2 ^ 32:=Nat.or_lt_two_pow (by omega) hd
 exact {
  o1:=rfl
  nx:=by
   rw[e]
   refine⟨by omega,by omega,by omega,by omega,?_⟩
   have hz:((r.toNat||| d.dig (k+1).toNat:Nat):Int)=0↔r=0∧d.dig (k+1).toNat=0:=by
    have:r.toNat||| d.dig (k+1).toNat=0↔r.toNat=0∧d.dig (k+1).toNat=0:=Nat.or_eq_zero_iff
    omega
   rw[hz,heq,show(k+1).toNat=k.toNat+1 by omega]
   constructor
   ·rintro⟨⟨h1,h2⟩,h3⟩
    refine⟨h1,fun i i1 i2=>?_⟩
    by_cases hi:i=k.toNat+1
    ·rw[hi];exact h3
    ·exact h2 i i1 (by omega)
   ·rintro⟨h1,h2⟩
    exact⟨⟨h1,fun i i1 i2=>h2 i i1 (by omega)⟩,h2 _ (by omega) (by omega)⟩
  ad:=by show aD .add .i64 k 1=k+1;simp only[aD,IntKind.wrap_i64];omega
  ms:=by omega }
theorem FU (d:Dg):(d.dig 0 < 2 ^ 30∧ ∀ i,1≤i→i≤31→d.dig i=0)↔d.n < 2 ^ 30:=by
 constructor
 ·rintro⟨h1,h2⟩
  have key: ∀ k,k≤31→d.n % 2 ^ (32*(k+1)) < 2 ^ 30:=fun k=>by
   induction k with
   | zero=>
    intro _
    have:=iP d 0
    rw[show 32*(0+1)=32*0+32 by omega] at *
    simp only[Nat.mul_zero,Nat.zero_add,Nat.pow_zero,Nat.mod_one,Nat.one_mul] at this ⊢
    omega
   | succ k ih=>
    intro hk
    rw[iP d (k+1),h2 (k+1) (by omega) hk,Nat.mul_zero,Nat.add_zero]
    exact ih (by omega)
  have:=key 31 (Nat.le_refl _)
  rwa [show 32*(31+1)=32*32 by rfl,lZ] at this
 ·intro h
  have h1: ∀ i,1≤i→d.dig i=0:=fun i hi=>by
   unfold Dg.dig
   rw[Nat.div_eq_of_lt (Nat.lt_of_lt_of_le h (Nat.pow_le_pow_right (by decide) (by omega)))]
  refine⟨?_,fun i hi _=>h1 i hi⟩
  unfold Dg.dig
  simp only[Nat.mul_zero,Nat.pow_zero,Nat.div_one]
  rw[Nat.mod_eq_of_lt (Nat.lt_trans h (by decide))];exact h
structure Pv (A:Alg) (F:SF) (w:Wd) (r:Int):Prop where
 e1:w.neg=true→A.bin .sub .i64 0 (A.wrap .i64 (A.dig w.d 0))=F.li w
 e0:w.neg=false→A.wrap .i64 (A.dig w.d 0)=F.li w
 eo:A.cmp .eql r 0=F.liOK w
theorem Nm {w:Wd} {k r:Int} (hI:LtI w.d k r) (A:Alg) (hA:A=aA) (F:SF) (hF:F=aO) (hk: ¬ k < 31):Pv A F w r:=by
 subst hA hF
 obtain⟨k0,k1,r0,r1,heq⟩:=hI
 have hd:=fQ w.d 0
 have e:aA.wrap .i64 (aA.dig w.d 0)=((w.d.dig 0:Nat):Int):=by
  show IntKind.i64.wrap ((w.d.dig (0:Int).toNat:Nat):Int)=_
  rw[IntKind.wrap_i64]
  show(((w.d.dig 0:Nat):Int)+_) % _ - _=_
  omega
 refine⟨fun h=>?_,fun h=>?_,?_⟩
 ·rw[e]
  show aD .sub .i64 0 ((w.d.dig 0:Nat):Int)=liZ w
  unfold liZ
  rw[h,if_pos rfl]
  simp only[aD,IntKind.wrap_i64];omega
 ·rw[e]
  show _=liZ w
  unfold liZ
  rw[h];rfl
 ·show(r == 0)=decide (w.d.n < 2 ^ 30)
  have hz:r=0↔w.d.n < 2 ^ 30:=by
   rw[heq,show k.toNat=31 by omega]
   exact FU w.d
  by_cases h:r=0
  ·rw[decide_eq_true (hz.1 h),h];rfl
  ·rw[decide_eq_false (fun h'=>h (hz.2 h')),beq_eq_false_iff_ne];exact h
theorem Qa {x:Int} (x0:0≤x) (A:Alg) (hA:A=aA) (hb:A.cmp .lss x 31=true):A.cmp .leq 0 1=true∧A.cmp .leq 32 (Int.ofNat 32)=true∧A.cmp .leq 0 x=true∧A.cmp .lss (A.iadd 1 x) 32=true∧A.cmp .leq 0 (A.iadd 1 x)=true:=by
 subst hA
 have hb:x < 31:=of_decide_eq_true hb
 exact⟨rfl,rfl,bJ _ rfl _ _ x0,bH _ rfl _ _ (by show 1+x < 32;omega),bJ _ rfl _ _ (by show 0≤1+x;omega)⟩
theorem Bt:aJ Try.prog 158 (aC [.pn 33] aA (x7 aO)):=by
 refine aH (un:=⟨false,some [0,2,3,4,6,7,17,18,19,20,36]⟩) tok Ls aL (fn:=Try.f158) ?_
 intro w Wr args bs r hg ho hWr A L k hA hL hk
 obtain⟨F,hF⟩:=exE aO
 obtain⟨M,hM⟩:=exE aZ
 obtain⟨S,hS⟩:=exE aV
 obtain⟨V,hV⟩:=exE aS
 obtain⟨X,hX⟩:=exE bR
 try rw[← hF]
 try rw[← hM]
 try rw[← hS]
 try rw[← hV]
 try rw[← hX]
 try rw[← hA]
 unfold x7 at hg
 split at hg <;> cases hg
 rename_i w
 have i0:=J0 w.d A hA
 cbv
 repeat' with_reducible first | (intro hb;cbv) | refine UM ?_ ?_
 all_goals first | ((try subst hA);(try subst hS);(try subst hR);(try subst hX);(try subst hC);(try subst hV);(try subst hT);(try subst hM);(try subst hF);(try subst hH);(try subst hK);(try subst hJ);(try subst hE);(try subst hD);(try subst hU);(try subst hW);(try subst hI);(try subst hP);decide +kernel) | skip
 have eN:A.isub (Int.ofNat 32) 1=31:=by subst hA;rfl
 refine hL _ _ _ (aQ (un:=⟨false,some [0,2,3,4,6,7,17,18,19,20,36]⟩) tok Ls aL (fun p:Int×Int=>⟨[(19,⟨[], .c (.s (.int .i64 p.1))⟩),(18,⟨[], .c (.s (.int .i64 31))⟩),(17,⟨[], .c (.s (.ha 0 1 1 1 32 32))⟩),(4,⟨[], .c (.s (.int .u32 p.2))⟩),(0,⟨[], .c (.s (.hp 0 0))⟩)],[(0, .fix false [.W w])],1⟩)
  (fun p=>LtI w.d p.1 p.2) (fun p=>(31 - p.1).toNat) (0,_) i0 ?_ (fun _ i hi=>by have:=hWr i hi;simp at this;show i < 1;omega) ?_)
 ·exact⟨⟨⟨rfl,rfl,fun _=>rfl⟩,⟨rfl,rfl,leI eN⟩,⟨rfl,rfl,fun _=>rfl⟩,⟨rfl,rfl,fun _=>rfl⟩,⟨rfl,rfl,fun _=>rfl⟩,trivial⟩,⟨aF rfl,trivial⟩,rfl,rfl⟩
 clear i0 eN
 rintro⟨x,r⟩ hI A2 L2 k2 hA2 hL2 hnext hexit hret
 have st:=fun(hb:A2.cmp .lss x 31=true)=>J1 hI A2 hA2 (by subst hA2;exact of_decide_eq_true hb) (A2.dig w.d (A2.iadd 1 x)) (by subst hA2;show((w.d.dig (1+x).toNat:Nat):Int)=_;rw[Int.add_comm])
 have en:=fun(hb:A2.cmp .lss x 31=false)=>Nm hI A hA F hF (by subst hA2;exact of_decide_eq_false hb)
 have x0:=hI.k0
 have ob:=fun(hb:A2.cmp .lss x 31=true)=>Qa x0 A2 hA2 hb
 clear hI
 rw[← hA2, ← hS, ← hV, ← hX, ← hM, ← hF]
 cbv
 repeat' with_reducible first | (intro hb;cbv) | refine UM ?_ ?_
 all_goals first | exact(ob (by assumption)).1 | exact(ob (by assumption)).2.1 | exact(ob (by assumption)).2.2.1 | exact(ob (by assumption)).2.2.2.1 | exact(ob (by assumption)).2.2.2.2 | skip
 ·refine hnext _ (x+1,_) (st hb).nx (st hb).ms ?_
  have ead:=(st hb).ad
  exact⟨⟨⟨rfl,rfl,leI ead⟩,⟨rfl,rfl,fun _=>rfl⟩,⟨rfl,rfl,fun _=>rfl⟩,⟨rfl,rfl,fun _=>rfl⟩,⟨rfl,rfl,fun _=>rfl⟩,trivial⟩,⟨aF rfl,trivial⟩,rfl,rfl⟩
 ·apply hexit
  have em:=en hb
  clear hexit hnext hret st en hb
  cbv
  repeat' with_reducible first | (intro hb;cbv) | refine UM ?_ ?_
  ·have e:=em.e1 hb
   refine hk _ _ (bE.pure rfl fun ρ=>?_)
   subst hF
   exact BR e em.eo
  ·have e:=em.e0 hb
   refine hk _ _ (bE.pure rfl fun ρ=>?_)
   subst hF
   exact BR e em.eo
def tF6 (A:Alg) (S:SW) (V:SV) (X:SX) (M:SM) (F:SF):List (Nat×bU):=(158,aC [.pn 33] A (x7 F)) :: ((tF5 A S V X M F))
theorem OD:COK Try.prog (aN (tF6 aA aV aS bR aZ aO)):=aB Bt (Ls)
def uL (F:SF):List CV→List Blk→Option LR
 | [.s (.hp 0 0)],[.fix false [.R r]]=>some ⟨[], .t [.g [.s (.int .i64 (F.smN r)), .s (.int .i64 (F.smD r))], .s (.bool (F.smOK r))],[]⟩
 | _,_=>none
section
variable {ρ:Rho} {f:Nat→Nat}
theorem Ri {a b c d:Int} {x y:Bool} (h1:a=c) (h2:b=d) (h3:x=y):(XV.t [.g [.s (.int .i64 a), .s (.int .i64 b)], .s (.tt x)]).den ρ=((XV.t [.g [.s (.int .i64 c), .s (.int .i64 d)], .s (.bool y)]).ren f).den ρ:=by subst h1 h2 h3;rfl
theorem OY {a b c d:Int} {x y:Bool} (h1:a=c) (h2:b=d) (h3:x=y):(XV.t [.g [.s (.lit .i64 a), .s (.lit .i64 b)], .s (.tt x)]).den ρ=((XV.t [.g [.s (.int .i64 c), .s (.int .i64 d)], .s (.bool y)]).ren f).den ρ:=by subst h1 h2 h3;rfl
end
theorem Dq (w:Wd):aO.b62 (liZ w)=true:=by
 have h:=fQ w.d 0
 refine iL.2 ?_
 unfold liZ
 split <;> omega
theorem uO {w:Wd} (h:w.d.n < 2 ^ 30):liZ w=aK w:=by
 have hd:w.d.dig 0=w.d.n:=by
  unfold Dg.dig
  simp only[Nat.mul_zero,Nat.pow_zero,Nat.div_one]
  exact Nat.mod_eq_of_lt (Nat.lt_trans h (by decide))
 unfold liZ
 rw[hd]
 rfl
def Ar (A:Alg) (F:SF) (r:Rt):Bool:=A.ite (A.ite (A.ite (A.ite (A.not (F.liOK r.N)) true (A.not (F.liOK r.D))) true (A.cmp .leq (F.li r.D) 0)) true (A.ite (A.cmp .eql (F.li r.N) 0) r.N.neg false)) true (A.cmp .neq (F.com (F.li r.N) (F.li r.D)) 1)
theorem Ep (r:Rt):Ar aA aO r= !smB r:=by
 unfold Ar smB
 show(if(if(if(if(!liB r.N)=true then true else !liB r.D)=true then true else decide (liZ r.D≤0))=true then true else if(liZ r.N == 0)=true then r.N.neg else false)=true then true else(((Nat.gcd (liZ r.N).natAbs (liZ r.D).natAbs:Nat):Int) != 1))=_
 cases h1:liB r.N
 ·rfl
 cases h2:liB r.D
 ·rfl
 have h1:r.N.d.n < 2 ^ 30:=of_decide_eq_true h1
 have h2:r.D.d.n < 2 ^ 30:=of_decide_eq_true h2
 rw[uO h1,uO h2]
 simp only[Bool.not_true,Bool.false_eq_true,if_false,Bool.true_and]
 have hg:Nat.gcd (aK r.N).natAbs (aK r.D).natAbs=Int.gcd (aK r.N) (aK r.D):=rfl
 rw[hg]
 by_cases h3:aK r.D≤0
 ·rw[decide_eq_true h3]
  simp only[if_true]
  symm
  rw[Bool.not_eq_true']
  cases h:Bj r
  ·rfl
  ·have:=(lC.1 h).p;omega
 rw[decide_eq_false h3]
 simp only[Bool.false_eq_true,if_false]
 have hD:gE r.D=true:=by
  unfold gE
  have:r.D.d.n≠0:=by
   intro h0
   have:=bF r.D
   omega
  rw[decide_eq_true this,Bool.or_true]
 have hN:gE r.N= !(if(aK r.N == 0)=true then r.N.neg else false):=by
  unfold gE
  have ha:=bF r.N
  by_cases h0:aK r.N=0
  ·rw[h0,decide_eq_false (by omega: ¬ r.N.d.n≠0)];simp
  ·rw[decide_eq_true (show r.N.d.n≠0 by omega)]
   have:(aK r.N == 0)=false:=by rw[beq_eq_false_iff_ne];exact h0
   rw[this];simp
 unfold Bj
 rw[hN,hD,decide_eq_true (show 0 < aK r.D by omega)]
 by_cases hq:Int.gcd (aK r.N) (aK r.D)=1
 ·rw[hq,decide_eq_true rfl]
  cases (if(aK r.N == 0)=true then r.N.neg else false) <;> rfl
 ·rw[decide_eq_false hq]
  have:(((Int.gcd (aK r.N) (aK r.D):Nat):Int) != 1)=true:=by rw[bne_iff_ne];omega
  rw[this]
  cases (if(aK r.N == 0)=true then r.N.neg else false) <;> rfl
structure SmF (A:Alg) (F:SF) (r:Rt):Prop where
 i1: ∀ b,A.imp b (F.b62 (F.li r.N))=true
 i2: ∀ b,A.imp b (F.b62 (F.li r.D))=true
 e1:Ar A F r=true→0=F.smN r∧0=F.smD r∧false=F.smOK r
 e0:Ar A F r=false→F.li r.N=F.smN r∧F.li r.D=F.smD r∧true=F.smOK r
theorem Ta (r:Rt) (A:Alg) (hA:A=aA) (F:SF) (hF:F=aO):SmF A F r:=by
 subst hA hF
 refine⟨fun b=>HU (Dq _),fun b=>HU (Dq _),fun h=>?_,fun h=>?_⟩
 ·rw[Ep,Bool.not_eq_true'] at h
  have e1:aO.smN r=0:=by show(if smB r=true then _ else _)=_;rw[h];rfl
  have e2:aO.smD r=0:=by show(if smB r=true then _ else _)=_;rw[h];rfl
  exact⟨e1.symm,e2.symm,h.symm⟩
 ·rw[Ep,Bool.not_eq_false'] at h
  have e1:aO.smN r=aK r.N:=by show(if smB r=true then _ else _)=_;rw[h];rfl
  have e2:aO.smD r=aK r.D:=by show(if smB r=true then _ else _)=_;rw[h];rfl
  have h':=h
  unfold smB at h'
  rw[Bool.and_eq_true,Bool.and_eq_true] at h'
  have h1:r.N.d.n < 2 ^ 30:=of_decide_eq_true h'.1
  have h2:r.D.d.n < 2 ^ 30:=of_decide_eq_true h'.2.1
  exact⟨by rw[e1];exact uO h1,by rw[e2];exact uO h2,h.symm⟩
theorem DG:aJ Try.prog 148 (aC [.p] aA (uL aO)):=by
 refine aH (un:=⟨false,some [0,2,3,4,5,6,7,48]⟩) tok OD aL (fn:=Try.f148) ?_
 intro w Wr args bs r hg ho hWr A L k hA hL hk
 obtain⟨F,hF⟩:=exE aO
 obtain⟨M,hM⟩:=exE aZ
 obtain⟨S,hS⟩:=exE aV
 obtain⟨V,hV⟩:=exE aS
 obtain⟨X,hX⟩:=exE bR
 try rw[← hF]
 try rw[← hM]
 try rw[← hS]
 try rw[← hV]
 try rw[← hX]
 try rw[← hA]
 unfold uL at hg
 split at hg <;> cases hg
 rename_i r
 have sf:=Ta r A hA F hF
 cbv
 repeat' with_reducible first | (intro hb;cbv) | refine UM ?_ ?_
 all_goals first | exact sf.i1 _ | exact sf.i2 _ | skip
 ·have e:=sf.e1 hb
  refine hk _ _ (bE.pure rfl fun ρ=>?_)
  subst hF
  exact OY e.1 e.2.1 e.2.2
 ·have e:=sf.e0 hb
  refine hk _ _ (bE.pure rfl fun ρ=>?_)
  subst hF
  exact Ri e.1 e.2.1 e.2.2
def Jl (A:Alg) (F:SF):List CV→List Blk→Option LR
 | [.s (.hp 0 0), .s (.hp 1 0)],[.fix false [.R a], .fix false [.R b]]=>some ⟨[], .t [.g [.s (.int .i64 (F.smN a)), .s (.int .i64 (F.smD a))], .g [.s (.int .i64 (F.smN b)), .s (.int .i64 (F.smD b))], .s (.bool (A.ite (F.smOK a) (F.smOK b) false))],[]⟩
 | _,_=>none
def tF7 (A:Alg) (S:SW) (V:SV) (X:SX) (M:SM) (F:SF):List (Nat×bU):=(148,aC [.p] A (uL F)) :: ((tF6 A S V X M F))
theorem OE:COK Try.prog (aN (tF7 aA aV aS bR aZ aO)):=aB DG (OD)
theorem F9:aJ Try.prog 138 (aC [.p, .p] aA (Jl aA aO)):=by
 refine aH (un:=⟨false,some [0,1,4,5,6,7,8,9,10]⟩) tok OE aL (fn:=Try.f138) ?_
 intro w Wr args bs r hg ho hWr A L k hA hL hk
 obtain⟨F,hF⟩:=exE aO
 obtain⟨M,hM⟩:=exE aZ
 obtain⟨S,hS⟩:=exE aV
 obtain⟨V,hV⟩:=exE aS
 obtain⟨X,hX⟩:=exE bR
 try rw[← hF]
 try rw[← hM]
 try rw[← hS]
 try rw[← hV]
 try rw[← hX]
 try rw[← hA]
 unfold Jl at hg
 split at hg <;> cases hg
 rename_i a b
 cbv
 refine hk _ _ (bE.pure rfl fun ρ=>?_)
 subst hA hF
 rfl
def tF8 (A:Alg) (S:SW) (V:SV) (X:SX) (M:SM) (F:SF):List (Nat×bU):=(138,aC [.p, .p] A (Jl A F)) :: ((tF7 A S V X M F))
theorem OF:COK Try.prog (aN (tF8 aA aV aS bR aZ aO)):=aB F9 (OE)
def Ml (F:SF):List CV→List Blk→Option LR
 | [.g [.R r]],[]=>some ⟨[], .c (.s (.bool (F.isR r))),[]⟩
 | _,_=>none
theorem SN (r:Rt) (A:Alg) (hA:A=aA) (S:SW) (hS:S=aV) (V:SV) (hV:V=aS) (F:SF) (hF:F=aO):(F.smOK r=true→true=F.isR r)∧
  A.ite (A.ite (A.ite (S.isW r.N) (S.isW r.D) false) (A.cmp .gtr (S.cmp r.D ⟨false,Dg.zero⟩) 0) false) (S.one (V.gcd r.N r.D)) false=F.isR r:=by
 subst hA hS hV hF
 constructor
 ·intro h
  have h:smB r=true:=h
  unfold smB at h
  rw[Bool.and_eq_true,Bool.and_eq_true] at h
  exact h.2.2.symm
 ·show(if(if(if gE r.N=true then gE r.D else false)=true then decide (sgn (aK r.D) (aK ⟨false,Dg.zero⟩) > 0) else false)=true then decide (aK (aS.gcd r.N r.D)=1) else false)=Bj r
  have h0:aK ⟨false,Dg.zero⟩=0:=rfl
  have hg:aK (aS.gcd r.N r.D)=((Int.gcd (aK r.N) (aK r.D):Nat):Int):=by
   show aK (ofZ ((Int.gcd (aK r.N) (aK r.D):Nat):Int))=_
   refine dV (decide_eq_true (p:=_ < 2 ^ 1024) ?_)
   rw[Int.natAbs_natCast]
   unfold Int.gcd
   rw[bF,bF]
   exact lR r.N.d.lt r.D.d.lt
  have hs:decide (sgn (aK r.D) 0 > 0)=decide (0 < aK r.D):=by
   rw[decide_eq_decide]
   unfold sgn
   constructor
   ·intro h
    by_cases h1:aK r.D < 0
    ·rw[if_pos h1] at h;omega
    ·rw[if_neg h1] at h
     by_cases h2:0 < aK r.D
     ·exact h2
     ·rw[if_neg h2] at h;omega
   ·intro h
    rw[if_neg (by omega),if_pos h];decide
  have h1:decide (((Int.gcd (aK r.N) (aK r.D):Nat):Int)=1)=decide (Int.gcd (aK r.N) (aK r.D)=1):=by rw[decide_eq_decide];omega
  rw[h0,hg,hs,h1]
  unfold Bj
  cases gE r.N <;> cases gE r.D <;> cases decide (0 < aK r.D) <;> rfl
theorem NY:aJ Try.prog 134 (aC [.v] aA (Ml aO)):=by
 refine aH (un:=⟨false,some [1,2,3,4,9]⟩) tok OF aL (fn:=Try.f134) ?_
 intro w Wr args bs r hg ho hWr A L k hA hL hk
 obtain⟨F,hF⟩:=exE aO
 obtain⟨M,hM⟩:=exE aZ
 obtain⟨S,hS⟩:=exE aV
 obtain⟨V,hV⟩:=exE aS
 obtain⟨X,hX⟩:=exE bR
 try rw[← hF]
 try rw[← hM]
 try rw[← hS]
 try rw[← hV]
 try rw[← hX]
 try rw[← hA]
 unfold Ml at hg
 split at hg <;> cases hg
 rename_i r
 have f:=SN r A hA S hS V hV F hF
 cbv
 repeat' with_reducible first | (intro hb;cbv) | refine UM ?_ ?_
 ·refine hk _ _ (bE.pure rfl fun ρ=>?_)
  have:=f.1 hb
  subst hF
  exact BH this
 ·refine hk _ _ (bE.pure rfl fun ρ=>?_)
  have:=f.2
  subst hF
  exact yQ this
def qN (F:SF):List CV→List Blk→Option LR
 | [.g [.R r], .s (.int .i64 n)],[]=>some ⟨[], .c (.s (.bool (F.safe r n))),[]⟩
 | _,_=>none
def tF9 (A:Alg) (S:SW) (V:SV) (X:SX) (M:SM) (F:SF):List (Nat×bU):=(134,aC [.v] A (Ml F)) :: ((tF8 A S V X M F))
theorem Lt:COK Try.prog (aN (tF9 aA aV aS bR aZ aO)):=aB NY (OF)
theorem Gc:aJ Try.prog 112 (aC [.v, .v] aA (qN aO)):=by
 refine aH (un:=⟨false,some [1,2,4]⟩) tok Lt aL (fn:=Try.f112) ?_
 intro w Wr args bs r hg ho hWr A L k hA hL hk
 obtain⟨F,hF⟩:=exE aO
 obtain⟨M,hM⟩:=exE aZ
 obtain⟨S,hS⟩:=exE aV
 obtain⟨V,hV⟩:=exE aS
 obtain⟨X,hX⟩:=exE bR
 try rw[← hF]
 try rw[← hM]
 try rw[← hS]
 try rw[← hV]
 try rw[← hX]
 try rw[← hA]
 unfold qN at hg
 split at hg <;> cases hg
 rename_i r n
 have f:A.ite (A.ite (A.cmp .leq (S.bits r.N) n) (A.cmp .leq (S.bits r.D) n) false) (F.isR r) false=F.safe r n:=by
  subst hA hS hF
  show(if(if decide (cS r.N≤n)=true then decide (cS r.D≤n) else false)=true then Bj r else false)=cQ r n
  unfold cQ
  cases decide (cS r.N≤n) <;> cases decide (cS r.D≤n) <;> rfl
 cbv
 refine hk _ _ (bE.pure rfl fun ρ=>?_)
 subst hF
 exact yQ f
def RO (A:Alg) (S:SW) (V:SV) (X:SX) (M:SM) (F:SF):List (Nat×bU):=(112,aC [.v, .v] A (qN F)) :: ((tF9 A S V X M F))
theorem Ew:COK Try.prog (aN (RO aA aV aS bR aZ aO)):=aB Gc (Lt)
def Ji (A:Alg) (F:SF):List CV→List Blk→Option LR
 | [.s (.hs 0)],[.vec false .rt l]=>some ⟨[A.cmp .lss (A.len l) 1000000], .c (.s (.bool (F.all l))),[]⟩
 | _,_=>none
def AlI (l:List Rt) (k:Int):Prop:=0≤k∧k≤l.length∧aO.all (l.take k.toNat)=true
structure Mv (A:Alg) (F:SF) (l:List Rt) (k:Int) (r:Rt):Prop where
 o1:A.cmp .leq 0 k=true
 no:A.not (F.safe r 500)=true→false=F.all l
 nx:A.not (F.safe r 500)=false→AlI l (k+1)
 ad:A.bin .add .i64 k 1=k+1
 ms:((l.length:Int) - (k+1)).toNat < ((l.length:Int) - k).toNat
theorem ID {l:List Rt} (hn:l.length < 1000000) {k:Int} (hI:AlI l k) (A:Alg) (hA:A=aA) (F:SF) (hF:F=aO) (hb:A.cmp .lss k (A.len l)=true) (r:Rt) (hr:r=A.get l k ⟨⟨false,A.zD⟩,⟨false,A.zD⟩⟩):Mv A F l k r:=by
 subst hA hF
 have hb:k < (l.length:Int):=of_decide_eq_true hb
 obtain⟨k0,k1,h⟩:=hI
 have hlt:k.toNat < l.length:=by omega
 have er:r=l[k.toNat]:=by
  rw[hr]
  show(l[k.toNat]?).getD _=_
  rw[List.getElem?_eq_getElem hlt];rfl
 exact {
  o1:=bJ _ rfl _ _ k0
  no:=fun h'=>by
   have h':(!cQ r 500)=true:=h'
   symm
   show(l.all fun r=>cQ r 500)=false
   rw[List.all_eq_false]
   exact⟨r,by rw[er];exact List.getElem_mem hlt,by simpa using h'⟩
  nx:=fun h'=>by
   have h':(!cQ r 500)=false:=h'
   refine⟨by omega,by omega,?_⟩
   show((l.take (k+1).toNat).all fun r=>cQ r 500)=true
   rw[show(k+1).toNat=k.toNat+1 by omega,List.take_succ_eq_append_getElem hlt,List.all_append]
   have h:((l.take k.toNat).all fun r=>cQ r 500)=true:=h
   rw[h, ← er]
   simpa using h'
  ad:=by show aD .add .i64 k 1=k+1;simp only[aD,IntKind.wrap_i64];omega
  ms:=by omega }
theorem MZ {l:List Rt} {k:Int} (hI:AlI l k) (A:Alg) (hA:A=aA) (F:SF) (hF:F=aO) (hb:A.cmp .lss k (A.len l)=false):true=F.all l:=by
 subst hA hF
 have hb: ¬ k < (l.length:Int):=of_decide_eq_false hb
 obtain⟨k0,k1,h⟩:=hI
 rw[List.take_of_length_le (by omega)] at h
 exact h.symm
theorem Kk:aJ Try.prog 140 (aC [.s .rt] aA (Ji aA aO)):=by
 refine aH (un:=⟨false,some [0,2,4,5,6,7,8,13]⟩) tok Ew aL (fn:=Try.f140) ?_
 intro w Wr args bs r hg ho hWr A L k hA hL hk
 obtain⟨F,hF⟩:=exE aO
 obtain⟨M,hM⟩:=exE aZ
 obtain⟨S,hS⟩:=exE aV
 obtain⟨V,hV⟩:=exE aS
 obtain⟨X,hX⟩:=exE bR
 try rw[← hF]
 try rw[← hM]
 try rw[← hS]
 try rw[← hV]
 try rw[← hX]
 try rw[← hA]
 unfold Ji at hg
 split at hg <;> cases hg
 rename_i l
 have hlen:=(aG ho).1
 simp only[aA,aP,decide_eq_true_eq] at hlen
 have hlen:l.length < 1000000:=by omega
 clear ho
 have i0:AlI l 0:=⟨Int.le_refl 0,Int.natCast_nonneg _,rfl⟩
 cbv
 refine hL _ _ _ (aQ (un:=⟨false,some [0,2,4,5,6,7,8,13]⟩) tok Ew aL (fun k:Int=>⟨[(7,⟨[], .c (.s (.int .i64 k))⟩),(6,⟨[], .c (.s (.int .i64 (aA.len l)))⟩),(5,⟨[], .c (.s (.hs 0))⟩)],[(0, .vec false .rt l)],1⟩)
  (fun k=>AlI l k) (fun k=>((l.length:Int) - k).toNat) 0 i0 ?_ (fun _ i hi=>by have:=hWr i hi;simp at this;show i < 1;omega) ?_)
 ·exact⟨⟨⟨rfl,rfl,fun _=>rfl⟩,⟨rfl,rfl,leI (by subst hA;rfl)⟩,⟨rfl,rfl,fun _=>rfl⟩,trivial⟩,⟨aF rfl,trivial⟩,rfl,rfl⟩
 clear i0
 rintro k hI A2 L2 k2 hA2 hL2 hnext hexit hret
 have st:=fun hb:A2.cmp .lss k (A2.len l)=true=>ID hlen hI A2 hA2 F hF hb _ rfl
 have en:=fun hb:A2.cmp .lss k (A2.len l)=false=>MZ hI A2 hA2 F hF hb
 clear hI
 rw[← hA2, ← hS, ← hV, ← hX, ← hM, ← hF]
 cbv
 repeat' with_reducible first | (intro hb;cbv) | refine UM ?_ ?_
 all_goals first | exact(st hb).o1 | exact hb | skip
 ·rename_i hb0
  have e:=(st hb0).no hb
  apply hret
  clear hexit hnext hret st en
  cbv
  refine hk _ _ (bE.pure rfl fun ρ=>?_)
  subst hF
  exact BH e
 ·rename_i hb0
  refine hnext _ (k+1) ((st hb0).nx hb) (st hb0).ms ?_
  have ead:=(st hb0).ad
  subst hA2
  exact⟨⟨⟨rfl,rfl,leI ead⟩,⟨rfl,rfl,fun _=>rfl⟩,⟨rfl,rfl,fun _=>rfl⟩,trivial⟩,⟨aF rfl,trivial⟩,rfl,rfl⟩
 ·have e:=en hb
  apply hexit
  clear hexit hnext hret st en
  cbv
  refine hk _ _ (bE.pure rfl fun ρ=>?_)
  subst hF
  exact BH e
def RP (A:Alg) (S:SW) (V:SV) (X:SX) (M:SM) (F:SF):List (Nat×bU):=(140,aC [.s .rt] A (Ji A F)) :: ((RO A S V X M F))
theorem Au:COK Try.prog (aN (RP aA aV aS bR aZ aO)):=aB Kk (Ew)
def C9 (A:Alg) (V:SV):List CV→List Blk→Option LW
 | [.g [.W x], .g [.W y], .s (.hp 0 0)],[.fix true [.s (.tt true)]]=>some ⟨[], .c (.g [.W (V.mul x y)]),[],[.fix true [.s (.bool (V.mulOK x y))]]⟩
 | [.g [.W x], .g [.W y], .s (.hp 0 0)],[.fix true [.s (.bool b)]]=>some ⟨[], .c (.g [.W (V.mul x y)]),[],[.fix true [.s (.bool (A.ite b (V.mulOK x y) false))]]⟩
 | _,_=>none
theorem DH:aJ Try.prog 141 (cM [.v, .v, .pw] aA (C9 aA aS)):=by
 refine cT (un:=⟨false,some [2,3,4,6,7,8]⟩) tok Au aL (fn:=Try.f141) ?_
 intro w Wr args bs r hg ho hWr A L k hA hL hk
 obtain⟨F,hF⟩:=exE aO
 obtain⟨M,hM⟩:=exE aZ
 obtain⟨S,hS⟩:=exE aV
 obtain⟨V,hV⟩:=exE aS
 obtain⟨X,hX⟩:=exE bR
 try rw[← hF]
 try rw[← hM]
 try rw[← hS]
 try rw[← hV]
 try rw[← hX]
 try rw[← hA]
 unfold C9 at hg
 split at hg
 ·simp only[Option.some.injEq] at hg
  subst hg
  rename_i x y
  cbv
  subst hV hA
  exact hk _ _ (iW.one (t:=0) rfl (fun ρ=>H5 rfl) rfl rfl rfl (aF rfl))
 ·simp only[Option.some.injEq] at hg
  subst hg
  rename_i x y b
  cbv
  subst hV hA
  exact hk _ _ (iW.one (t:=0) rfl (fun ρ=>H5 rfl) rfl rfl rfl (aF rfl))
 ·cases hg
def RQ (A:Alg) (S:SW) (V:SV) (X:SX) (M:SM) (F:SF):List (Nat×bU):=(141,cM [.v, .v, .pw] A (C9 A V)) :: ((RP A S V X M F))
theorem Ex:COK Try.prog (aN (RQ aA aV aS bR aZ aO)):=aB DH (Au)
structure Ss (A:Alg) (S:SW) (V:SV) (F:SF) (a b:Rt):Prop where
 sm:A.ite (F.smOK a) (F.smOK b) false=true→HJ aA a b∧F.two a b=true
 no:A.not (F.all [a,b])=true→F.two a b=false
 ok:A.not (F.all [a,b])=false→RB a b∧F.two a b=true
theorem Hy (a b:Rt) (A:Alg) (hA:A=aA) (S:SW) (V:SV) (F:SF) (hF:F=aO):Ss A S V F a b:=by
 subst hA hF
 have hall:aO.all [a,b]=dK a b:=by
  show(cQ a 500&&(cQ b 500&&true))=(cQ a 500&&cQ b 500)
  rw[Bool.and_true]
 refine⟨fun h=>?_,fun h=>?_,fun h=>?_⟩
 ·have h:(if smB a=true then smB b else false)=true:=h
  cases ha:smB a
  ·rw[ha] at h;cases h
  ·rw[ha] at h
   exact⟨Er ha h aA rfl,H7 ha h⟩
 ·have h:(!aO.all [a,b])=true:=h
  rw[hall,Bool.not_eq_true'] at h
  exact h
 ·have h:(!aO.all [a,b])=false:=h
  rw[hall,Bool.not_eq_false'] at h
  exact⟨IH h,h⟩
def A1 (F:SF):List CV→List Blk→Option LR
 | [.g [.R a], .g [.R b]],[]=>some ⟨[], .t [.s (.int .i64 (F.cmp a b)), .s (.bool (F.two a b))],[]⟩
 | _,_=>none
theorem Kl:aJ Try.prog 121 (aC [.v, .v] aA (A1 aO)):=by
 refine aH (un:=⟨false,some [2,3,4,5,6,7,8,9,10,11,17,33]⟩) tok Ex aL (fn:=Try.f121) ?_
 intro w Wr args bs r hg ho hWr A L k hA hL hk
 obtain⟨F,hF⟩:=exE aO
 obtain⟨M,hM⟩:=exE aZ
 obtain⟨S,hS⟩:=exE aV
 obtain⟨V,hV⟩:=exE aS
 obtain⟨X,hX⟩:=exE bR
 try rw[← hF]
 try rw[← hM]
 try rw[← hS]
 try rw[← hV]
 try rw[← hX]
 try rw[← hA]
 unfold A1 at hg
 split at hg <;> cases hg
 rename_i a b
 have tf:=Hy a b A hA S V F hF
 have al2:A.cmp .lss (A.len [a,b]) 1000000=true:=bH A hA _ _ (by subst hA;show(2:Int) < 1000000;omega)
 cbv
 repeat' with_reducible first | (intro hb;cbv) | refine UM ?_ ?_
 ·have e:=tf.sm hb
  refine hk _ _ (bE.pure rfl fun ρ=>?_)
  subst hA hF
  refine EE ?_ e.2.symm
  show sgn _ _=if dK a b=true then cZ (bI a) (bI b) else 0
  rw[if_pos (show dK a b=true from e.2)]
  exact e.1.c
 ·exact al2
 ·have e:=tf.no hb
  refine hk _ _ (bE.pure rfl fun ρ=>?_)
  subst hA hF
  refine EF ?_ e.symm
  show 0=if dK a b=true then cZ (bI a) (bI b) else 0
  rw[if_neg (by rw[show dK a b=false from e];decide)]
 ·have e:=tf.ok hb
  refine hk _ _ (bE.pure rfl fun ρ=>?_)
  subst hA hF hS hV
  refine BR ?_ ?_
  ·show _=if dK a b=true then cZ (bI a) (bI b) else 0
   rw[if_pos (show dK a b=true from e.2)]
   exact e.1.cmp
  ·show aA.ite (aS.mulOK a.N b.D) (aS.mulOK b.N a.D) false=aO.two a b
   rw[e.1.m1,e.1.m2,e.2];rfl
def RR (A:Alg) (S:SW) (V:SV) (X:SX) (M:SM) (F:SF):List (Nat×bU):=(121,aC [.v, .v] A (A1 F)) :: ((RQ A S V X M F))
theorem Av:COK Try.prog (aN (RR aA aV aS bR aZ aO)):=aB Kl (Ex)
def RS (A:Alg) (S:SW) (V:SV) (X:SX) (M:SM) (F:SF):List (Nat×bU):=((RR A S V X M F))
theorem agX:COK Try.prog (aN (RS aA aV aS bR aZ aO)):=Av
def RT (A:Alg) (S:SW) (V:SV) (X:SX) (M:SM) (F:SF):List (Nat×bU):=((RS A S V X M F))
theorem Ey:COK Try.prog (aN (RT aA aV aS bR aZ aO)):=agX
def RU (A:Alg) (S:SW) (V:SV) (X:SX) (M:SM) (F:SF):List (Nat×bU):=((RT A S V X M F))
theorem Aw:COK Try.prog (aN (RU aA aV aS bR aZ aO)):=Ey
end Go.Eng
