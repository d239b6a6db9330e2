
import Derived.Test.YtlonkgccgccieaaCRB
import Derived.Test.YtlonkgccgccieaaCMB
import Derived.Test.YtlonkgccgccieaaSpecFA
import Derived.Test.YtlonkgccgccieaaEngZA
set_option linter.all false
set_option exponentiation.threshold 3000
set_option maxRecDepth 100000
set_option maxHeartbeats 2000000
namespace Go.Eng
open Go.Proofs
theorem Mag.sub {l:List Int} {n:Nat} (h:Mag l) (hn:n≤aM l):Mag (bS n):=Mag.lt (Nat.lt_of_le_of_lt hn h.small) (Nat.le_refl _)
def tG8 (A:Alg) (S:SW) (V:SV) (X:SX) (M:SM) (F:SF) (H:SH):List (Nat×bU):=((tG7 A S V X M F H)++(R2 A S V X M))
theorem OG:COK Try.prog (aN (tG8 aA aV aS bR aZ aO bD)):=It QQ ON
def tT1 (A:Alg) (S:SW) (V:SV) (X:SX) (M:SM) (F:SF) (H:SH):List (Nat×bU):=((tG8 A S V X M F H))
theorem OT:COK Try.prog (aN (tT1 aA aV aS bR aZ aO bD)):=OG
def tT2 (A:Alg) (S:SW) (V:SV) (X:SX) (M:SM) (F:SF) (H:SH):List (Nat×bU):=((tT1 A S V X M F H))
theorem LL:COK Try.prog (aN (tT2 aA aV aS bR aZ aO bD)):=OT
def qO (A:Alg) (H:SH):List CV→List Blk→Option LR
 | [.s (.int .i64 n)],[]=>some ⟨[A.cmp .leq (-9223372036854775808) n,A.cmp .lss n 9223372036854775808], .c (.g [.R (H.whole n)]),[]⟩
 | _,_=>none
theorem rC:aJ Try.prog 41 (aC [.v] aA (qO aA bD)):=by
 refine aH (un:=⟨false,some [0,2]⟩) tok LL aL (fn:=Try.f41) ?_
 intro w Wr args bs r hg ho hWr A L k hA hL hk
 obtain⟨F,hF⟩:=exE aO
 obtain⟨H,hH⟩:=exE bD
 obtain⟨M,hM⟩:=exE aZ
 obtain⟨S,hS⟩:=exE aV
 obtain⟨V,hV⟩:=exE aS
 obtain⟨X,hX⟩:=exE bR
 try rw[← hF]
 try rw[← hH]
 try rw[← hM]
 try rw[← hS]
 try rw[← hV]
 try rw[← hX]
 try rw[← hA]
 unfold qO at hg
 split at hg <;> cases hg
 rename_i n
 have o1:=(aG ho).1
 have o2:=(aG (aG ho).2).1
 clear ho
 have e:(⟨S.from64 n,S.from64 1⟩:Rt)=H.whole n:=by
  simp only[aA,aP,decide_eq_true_eq] at o1 o2
  subst hS hH
  exact(q8 (by show n.natAbs < 2 ^ 64;omega)).2.2
 have j1:A.cmp .leq (-9223372036854775808) 1=true:=bJ A hA _ _ (by omega)
 have j2:A.cmp .lss 1 9223372036854775808=true:=bH A hA _ _ (by omega)
 rw[← hA] at o1 o2
 cbv
 repeat' with_reducible first | (intro hb;cbv) | refine UM ?_ ?_
 all_goals first | exact o1 | exact o2 | exact j1 | exact j2 | skip
 refine hk _ _ (bE.pure rfl fun ρ=>?_)
 subst hS hH
 exact yR e
def tT3 (A:Alg) (S:SW) (V:SV) (X:SX) (M:SM) (F:SF) (H:SH):List (Nat×bU):=(41,aC [.v] A (qO A H)) :: ((tT2 A S V X M F H))
theorem LM:COK Try.prog (aN (tT3 aA aV aS bR aZ aO bD)):=aB rC (LL)
def Jm (K:SK) (F:SF):List CV→List Blk→Option LR
 | [.s (.int .i64 a), .s (.int .i64 b)],[]=>some ⟨[K.b63 a,K.b63 b], .c (.s (.int .i64 (F.com a b))),[]⟩
 | _,_=>none
structure CoK (a0 b0 a b:Int):Prop where
 a1:0≤a
 a2:a≤9223372036854775807
 b1:0≤b
 b2:b≤9223372036854775807
 eq:Nat.gcd a.toNat b.toNat=Nat.gcd a0.natAbs b0.natAbs
structure Iu (A:Alg) (a0 b0 a b:Int):Prop where
 nx:CoK a0 b0 b (A.bin .rem .i64 a b)
 ms:(A.bin .rem .i64 a b).toNat < b.toNat
 nz:A.cmp .neq b 0=true
theorem Ft {a0 b0 a b:Int} (hI:CoK a0 b0 a b) (A:Alg) (hA:A=aA) (hb:A.cmp .gtr b 0=true):Iu A a0 b0 a b:=by
 subst hA
 have hb:b > 0:=of_decide_eq_true hb
 obtain⟨a1,a2,b1,b2,heq⟩:=hI
 have e:aA.bin .rem .i64 a b=((a.toNat % b.toNat:Nat):Int):=by
  show a.tmod b=_
  rw[Int.tmod_eq_emod_of_nonneg a1,Int.natCast_emod,Int.toNat_of_nonneg a1,Int.toNat_of_nonneg b1]
 have hlt:=Nat.mod_lt a.toNat (show 0 < b.toNat by omega)
 refine⟨?_,by rw[e,Int.toNat_natCast];exact hlt,by show(b != 0)=true;rw[bne_iff_ne];omega⟩
 rw[e]
 refine⟨b1,b2,by omega,by omega,?_⟩
 rw[Int.toNat_natCast, ← heq,Nat.gcd_comm b.toNat, ← Nat.gcd_rec,Nat.gcd_comm]
theorem IT {a0 b0 a b:Int} (hI:CoK a0 b0 a b) (A:Alg) (hA:A=aA) (F:SF) (hF:F=aO) (hb:A.cmp .gtr b 0=false):a=F.com a0 b0:=by
 subst hA hF
 have hb: ¬ b > 0:=of_decide_eq_false hb
 obtain⟨a1,a2,b1,b2,heq⟩:=hI
 have h0:b=0:=by omega
 rw[h0] at heq
 show a=((Nat.gcd a0.natAbs b0.natAbs:Nat):Int)
 rw[← heq]
 show a=((Nat.gcd a.toNat 0:Nat):Int)
 rw[Nat.gcd_zero_right];omega
theorem Dz {a:Int} (h1: -9223372036854775807≤a) (h2:a≤9223372036854775807):aA.mx a (aA.bin .sub .i64 0 a)=(a.natAbs:Int):=by
 have e:aA.bin .sub .i64 0 a= -a:=by show aD .sub .i64 0 a= -a;simp only[aD,IntKind.wrap_i64];omega
 rw[e]
 show(if -a > a then -a else a)=_
 split <;> omega
theorem Fs {a b:Int} (ha: -9223372036854775807≤a∧a≤9223372036854775807) (hb: -9223372036854775807≤b∧b≤9223372036854775807) (A:Alg) (hA:A=aA):CoK a b (A.mx a (A.bin .sub .i64 0 a)) (A.mx b (A.bin .sub .i64 0 b)):=by
 subst hA
 rw[Dz ha.1 ha.2,Dz hb.1 hb.2]
 exact⟨by omega,by omega,by omega,by omega,by rw[Int.toNat_natCast,Int.toNat_natCast]⟩
theorem KM:aJ Try.prog 143 (aC [.v, .v] aA (Jm cA aO)):=by
 refine aH (un:=⟨false,some [0,1,4,14]⟩) tok LM aL (fn:=Try.f143) ?_
 intro w Wr args bs r hg ho hWr A L k hA hL hk
 obtain⟨F,hF⟩:=exE aO
 obtain⟨H,hH⟩:=exE bD
 obtain⟨K,hK⟩:=exE cA
 obtain⟨M,hM⟩:=exE aZ
 obtain⟨S,hS⟩:=exE aV
 obtain⟨V,hV⟩:=exE aS
 obtain⟨X,hX⟩:=exE bR
 try rw[← hF]
 try rw[← hH]
 try rw[← hK]
 try rw[← hM]
 try rw[← hS]
 try rw[← hV]
 try rw[← hX]
 try rw[← hA]
 unfold Jm at hg
 split at hg <;> cases hg
 rename_i a b
 have ha:=lW.1 ((aG ho).1)
 have hb:=lW.1 ((aG (aG ho).2).1)
 clear ho
 have i0:=Fs ha hb A hA
 cbv
 refine hL _ _ _ (aQ (un:=⟨false,some [0,1,4,14]⟩) tok LM aL (fun p:Int×Int=>⟨[(1,⟨[], .c (.s (.int .i64 p.2))⟩),(0,⟨[], .c (.s (.int .i64 p.1))⟩)],[],0⟩)
  (fun p=>CoK a b p.1 p.2) (fun p=>p.2.toNat) (_,_) i0 ?_ (fun _ i hi=>by have:=hWr i hi;simp at this) ?_)
 ·exact⟨⟨⟨rfl,rfl,fun _=>rfl⟩,⟨rfl,rfl,fun _=>rfl⟩,trivial⟩,trivial,rfl,rfl⟩
 clear i0
 rintro⟨x,y⟩ hI A2 L2 k2 hA2 hL2 hnext hexit hret
 have st:=fun hb=>Ft hI A2 hA2 hb
 have en:=fun hb=>IT hI A hA F hF (by rw[hA, ← hA2];exact hb)
 clear hI
 rw[← hA2, ← hS, ← hV, ← hX, ← hM, ← hF, ← hH]
 cbv
 repeat' with_reducible first | (intro hb;cbv) | refine UM ?_ ?_
 all_goals first | exact(st hb).nz | skip
 ·refine hnext _ (_,_) (st hb).nx (st hb).ms ?_
  exact⟨⟨⟨rfl,rfl,fun _=>rfl⟩,⟨rfl,rfl,fun _=>rfl⟩,trivial⟩,trivial,rfl,rfl⟩
 ·apply hexit
  have em:=en hb
  clear hexit hnext hret st en hb
  cbv
  refine hk _ _ (bE.pure rfl fun ρ=>?_)
  subst hF
  exact B2 em
def tT5 (A:Alg) (S:SW) (V:SV) (X:SX) (M:SM) (F:SF) (H:SH) (K:SK):List (Nat×bU):=(143,aC [.v, .v] A (Jm K F)) :: ((tT3 A S V X M F H))
theorem OU:COK Try.prog (aN (tT5 aA aV aS bR aZ aO bD cA)):=aB KM (LM)
def tT6 (A:Alg) (S:SW) (V:SV) (X:SX) (M:SM) (F:SF) (H:SH) (K:SK):List (Nat×bU):=((tT5 A S V X M F H K))
theorem LN:COK Try.prog (aN (tT6 aA aV aS bR aZ aO bD cA)):=OU
theorem ajW {A:Alg} (hA:A=aA) {b c:Bool} (h:c=true):A.imp b c=true:=by
 subst hA;subst h;show(!b||true)=true;simp
section
variable {ρ:Rho} {f:Nat→Nat}
theorem Ih {k:IntKind} {a b c d:Int} {x y:Bool} (h1:a=c) (h2:b=d) (h3:x=y):(XV.t [.s (.lit k a), .s (.lit k b), .s (.tt x)]).den ρ=((XV.t [.s (.int k c), .s (.int k d), .s (.bool y)]).ren f).den ρ:=by subst h1 h2 h3;rfl
theorem Ig {k:IntKind} {a b c d:Int} {x y:Bool} (h1:a=c) (h2:b=d) (h3:x=y):(XV.t [.s (.int k a), .s (.int k b), .s (.tt x)]).den ρ=((XV.t [.s (.int k c), .s (.int k d), .s (.bool y)]).ren f).den ρ:=by subst h1 h2 h3;rfl
end
def FH (K:SK):List CV→List Blk→Option LR
 | [.g [.R r]],[]=>some ⟨[], .t [.s (.int .i64 (K.tyN r)), .s (.int .i64 (K.tyD r)), .s (.bool (K.tyOK r))],[]⟩
 | _,_=>none
structure TyI (r:Rt) (k:Int):Prop where
 k0:1≤k
 k1:k≤32
 z: ∀ i,1≤i→i < k.toNat→r.N.d.dig i=0∧r.D.d.dig i=0
theorem oF (d:Dg):(∀ i,1≤i→i < 32→d.dig i=0)↔d.n < 2 ^ 32:=by
 constructor
 ·intro h2
  have key: ∀ k,k≤31→d.n % 2 ^ (32*(k+1)) < 2 ^ 32:=fun k=>by
   induction k with
   | zero=>intro _;rw[show 32*(0+1)=32 by rfl];exact Nat.mod_lt _ (by decide)
   | succ k ih=>
    intro hk
    rw[iP d (k+1),h2 (k+1) (by omega) (by omega),Nat.mul_zero,Nat.add_zero]
    exact ih (by omega)
  have:=key 31 (Nat.le_refl _)
  rwa [show 32*(31+1)=32*32 by rfl,lZ] at this
 ·intro h i hi _
  unfold Dg.dig
  rw[Nat.div_eq_of_lt (Nat.lt_of_lt_of_le h (Nat.pow_le_pow_right (by decide) (by omega)))]
structure MU (A:Alg) (K:SK) (r:Rt) (k:Int):Prop where
 o1:A.cmp .leq 0 k=true
 o2:A.cmp .lss k 32=true
 no:A.ite (A.cmp .neq (A.dig r.N.d k) 0) true (A.cmp .neq (A.dig r.D.d k) 0)=true→0=K.tyN r∧0=K.tyD r∧false=K.tyOK r
 nx:A.ite (A.cmp .neq (A.dig r.N.d k) 0) true (A.cmp .neq (A.dig r.D.d k) 0)=false→TyI r (k+1)
 ad:A.bin .add .i64 k 1=k+1
 ms:(32 - (k+1)).toNat < (32 - k).toNat
theorem Pg {r:Rt} (h:tyB r=false):0=cA.tyN r∧0=cA.tyD r∧false=cA.tyOK r:=by
 have e1:cA.tyN r=0:=by show(if tyB r=true then _ else _)=_;rw[h];rfl
 have e2:cA.tyD r=0:=by show(if tyB r=true then _ else _)=_;rw[h];rfl
 exact⟨e1.symm,e2.symm,h.symm⟩
theorem L9 {r:Rt} {k:Int} (hI:TyI r k) (A:Alg) (hA:A=aA) (K:SK) (hK:K=cA) (hb:A.cmp .lss k 32=true):MU A K r k:=by
 subst hA hK
 have hb:k < 32:=of_decide_eq_true hb
 obtain⟨k0,k1,hz⟩:=hI
 have hdig: ∀ d:Dg,aA.dig d k=((d.dig k.toNat:Nat):Int):=fun d=>rfl
 have hc: ∀ d:Dg,aA.cmp .neq (aA.dig d k) 0=decide (d.dig k.toNat≠0):=fun d=>by
  show(((d.dig k.toNat:Nat):Int) != 0)=_
  by_cases h:d.dig k.toNat=0
  ·rw[h];rfl
  ·rw[decide_eq_true h,bne_iff_ne];omega
 have nz: ∀ d:Dg,d.dig k.toNat≠0→ ¬ d.n < 2 ^ 31:=fun d h h'=>h ((oF d).2 (Nat.lt_trans h' (by decide)) _ (by omega) (by omega))
 exact {
  o1:=bJ _ rfl _ _ (by omega)
  o2:=bH _ rfl _ _ hb
  no:=fun h=>by
   rw[hc,hc] at h
   refine Pg ?_
   unfold tyB
   have h:(if decide (r.N.d.dig k.toNat≠0)=true then true else decide (r.D.d.dig k.toNat≠0))=true:=h
   split at h
   ·rename_i h1
    rw[decide_eq_false (nz _ (of_decide_eq_true h1))];rfl
   ·rw[decide_eq_false (nz _ (of_decide_eq_true h))]
    cases decide (r.N.d.n < 2 ^ 31) <;> rfl
  nx:=fun h=>by
   rw[hc,hc] at h
   have h:(if decide (r.N.d.dig k.toNat≠0)=true then true else decide (r.D.d.dig k.toNat≠0))=false:=h
   refine⟨by omega,by omega,fun i i1 i2=>?_⟩
   by_cases hi:i=k.toNat
   ·subst hi
    split at h
    ·cases h
    ·rename_i h1
     rw[decide_eq_true_eq,Decidable.not_not] at h1
     have:=of_decide_eq_false h
     exact⟨h1,Decidable.not_not.1 this⟩
   ·exact hz i i1 (by omega)
  ad:=by show aD .add .i64 k 1=k+1;simp only[aD,IntKind.wrap_i64];omega
  ms:=by omega }
def tyC (A:Alg) (F:SF) (r:Rt):Bool:=A.ite (A.ite (A.ite (A.ite (A.ite (A.cmp .geq (A.wrap .i64 (A.dig r.N.d 0)) 2147483648) true (A.cmp .geq (A.wrap .i64 (A.dig r.D.d 0)) 2147483648)) true (A.cmp .eql (A.wrap .i64 (A.dig r.D.d 0)) 0)) true r.D.neg) true (A.ite r.N.neg (A.cmp .eql (A.wrap .i64 (A.dig r.N.d 0)) 0) false)) true (A.cmp .neq (F.com (A.wrap .i64 (A.dig r.N.d 0)) (A.wrap .i64 (A.dig r.D.d 0))) 1)
structure PC (A:Alg) (F:SF) (K:SK) (r:Rt):Prop where
 o1:K.b63 (A.wrap .i64 (A.dig r.N.d 0))=true
 o2:K.b63 (A.wrap .i64 (A.dig r.D.d 0))=true
 no:tyC A F r=true→0=K.tyN r∧0=K.tyD r∧false=K.tyOK r
 e1:tyC A F r=false→r.N.neg=true→A.bin .sub .i64 0 (A.wrap .i64 (A.dig r.N.d 0))=K.tyN r
 e0:tyC A F r=false→r.N.neg=false→A.wrap .i64 (A.dig r.N.d 0)=K.tyN r
 d:tyC A F r=false→A.wrap .i64 (A.dig r.D.d 0)=K.tyD r
 ok:tyC A F r=false→true=K.tyOK r
theorem EV {r:Rt} (h1:r.N.d.n < 2 ^ 32) (h2:r.D.d.n < 2 ^ 32):tyC aA aO r= !tyB r:=by
 have e: ∀ d:Dg,d.n < 2 ^ 32→aA.wrap .i64 (aA.dig d 0)=((d.n:Nat):Int):=fun d h=>by
  have hd:d.dig 0=d.n:=by
   unfold Dg.dig
   simp only[Nat.mul_zero,Nat.pow_zero,Nat.div_one]
   exact Nat.mod_eq_of_lt h
  show IntKind.i64.wrap ((d.dig (0:Int).toNat:Nat):Int)=_
  rw[show(0:Int).toNat=0 from rfl,hd,IntKind.wrap_i64]
  omega
 unfold tyC
 rw[e _ h1,e _ h2]
 show(if(if(if(if(if decide (((r.N.d.n:Nat):Int) ≥ 2147483648)=true then true else decide (((r.D.d.n:Nat):Int) ≥ 2147483648))=true then true else(((r.D.d.n:Nat):Int) == 0))=true then true else r.D.neg)=true then true else(if r.N.neg=true then(((r.N.d.n:Nat):Int) == 0) else false))=true then true else(((Nat.gcd ((r.N.d.n:Nat):Int).natAbs ((r.D.d.n:Nat):Int).natAbs:Nat):Int) != 1))= !tyB r
 have g1:decide (((r.N.d.n:Nat):Int) ≥ 2147483648)= !decide (r.N.d.n < 2 ^ 31):=by
  by_cases h:r.N.d.n < 2 ^ 31
  ·rw[decide_eq_true h,decide_eq_false (by omega)];rfl
  ·rw[decide_eq_false h,decide_eq_true (by omega)];rfl
 have g2:decide (((r.D.d.n:Nat):Int) ≥ 2147483648)= !decide (r.D.d.n < 2 ^ 31):=by
  by_cases h:r.D.d.n < 2 ^ 31
  ·rw[decide_eq_true h,decide_eq_false (by omega)];rfl
  ·rw[decide_eq_false h,decide_eq_true (by omega)];rfl
 have g3:(((r.D.d.n:Nat):Int) == 0)= !decide (r.D.d.n≠0):=by
  by_cases h:r.D.d.n=0
  ·rw[h];rfl
  ·rw[decide_eq_true h];show(((r.D.d.n:Nat):Int) == 0)=false;rw[beq_eq_false_iff_ne];omega
 have g4:(((r.N.d.n:Nat):Int) == 0)= !decide (r.N.d.n≠0):=by
  by_cases h:r.N.d.n=0
  ·rw[h];rfl
  ·rw[decide_eq_true h];show(((r.N.d.n:Nat):Int) == 0)=false;rw[beq_eq_false_iff_ne];omega
 have g5:(((Nat.gcd ((r.N.d.n:Nat):Int).natAbs ((r.D.d.n:Nat):Int).natAbs:Nat):Int) != 1)= !decide (Int.gcd (aK r.N) (aK r.D)=1):=by
  have:Int.gcd (aK r.N) (aK r.D)=Nat.gcd r.N.d.n r.D.d.n:=by unfold Int.gcd;rw[bF,bF]
  rw[this,Int.natAbs_natCast,Int.natAbs_natCast]
  by_cases h:Nat.gcd r.N.d.n r.D.d.n=1
  ·rw[h];rfl
  ·rw[decide_eq_false h];show(((Nat.gcd r.N.d.n r.D.d.n:Nat):Int) != 1)=true;rw[bne_iff_ne];omega
 rw[g1,g2,g3,g4,g5]
 unfold tyB Bj gE
 have gp:decide (0 < aK r.D)=(!r.D.neg&&decide (r.D.d.n≠0)):=by
  unfold aK
  cases r.D.neg
  ·show decide (0 < ((r.D.d.n:Nat):Int))=(true&&decide (r.D.d.n≠0))
   rw[Bool.true_and,decide_eq_decide];omega
  ·show decide (0 < -((r.D.d.n:Nat):Int))=(false&&_)
   rw[Bool.false_and];exact decide_eq_false (by omega)
 rw[gp]
 cases decide (r.N.d.n < 2 ^ 31) <;> cases decide (r.D.d.n < 2 ^ 31) <;> cases decide (r.D.d.n≠0) <;> cases decide (r.N.d.n≠0) <;> cases r.N.neg <;> cases r.D.neg <;> cases decide (Int.gcd (aK r.N) (aK r.D)=1) <;> rfl
theorem Pf {r:Rt} {k:Int} (hI:TyI r k) (A:Alg) (hA:A=aA) (F:SF) (hF:F=aO) (K:SK) (hK:K=cA) (hk:A.cmp .lss k 32=false):PC A F K r:=by
 subst hA hF hK
 have hk: ¬ k < 32:=of_decide_eq_false hk
 obtain⟨k0,k1,hz⟩:=hI
 have h1:r.N.d.n < 2 ^ 32:=(oF _).1 fun i i1 i2=>(hz i i1 (by omega)).1
 have h2:r.D.d.n < 2 ^ 32:=(oF _).1 fun i i1 i2=>(hz i i1 (by omega)).2
 have e: ∀ d:Dg,d.n < 2 ^ 32→aA.wrap .i64 (aA.dig d 0)=((d.n:Nat):Int):=fun d h=>by
  have hd:d.dig 0=d.n:=by
   unfold Dg.dig
   simp only[Nat.mul_zero,Nat.pow_zero,Nat.div_one]
   exact Nat.mod_eq_of_lt h
  show IntKind.i64.wrap ((d.dig (0:Int).toNat:Nat):Int)=_
  rw[show(0:Int).toNat=0 from rfl,hd,IntKind.wrap_i64]
  omega
 have hv:tyC aA aO r=false→cA.tyN r=aK r.N∧cA.tyD r=aK r.D∧tyB r=true∧r.D.neg=false:=fun h=>by
  rw[EV h1 h2,Bool.not_eq_false'] at h
  obtain⟨s,n,d⟩:=BU h
  refine⟨n,d,h,?_⟩
  have hp:=s.is.p
  cases hn:r.D.neg
  ·rfl
  ·unfold aK at hp
   rw[hn] at hp
   have hp:0 < -((r.D.d.n:Nat):Int):=hp
   omega
 refine⟨by rw[e _ h1,lW];omega,by rw[e _ h2,lW];omega,fun h=>?_,fun h hn=>?_,fun h hn=>?_,fun h=>?_,fun h=>(hv h).2.2.1.symm⟩
 ·rw[EV h1 h2,Bool.not_eq_true'] at h
  exact Pg h
 ·rw[(hv h).1,e _ h1]
  unfold aK
  rw[hn]
  show aD .sub .i64 0 _= -((r.N.d.n:Nat):Int)
  simp only[aD,IntKind.wrap_i64];omega
 ·rw[(hv h).1,e _ h1]
  unfold aK
  rw[hn];rfl
 ·rw[(hv h).2.1,e _ h2]
  unfold aK
  rw[(hv h).2.2.2];rfl
theorem Ac:aJ Try.prog 122 (aC [.v] aA (FH cA)):=by
 refine aH (un:=⟨false,some [1,2,3,4,5,6,7,9,25,65,68]⟩) tok LN aL (fn:=Try.f122) ?_
 intro w Wr args bs r hg ho hWr A L k hA hL hk
 obtain⟨F,hF⟩:=exE aO
 obtain⟨H,hH⟩:=exE bD
 obtain⟨K,hK⟩:=exE cA
 obtain⟨M,hM⟩:=exE aZ
 obtain⟨S,hS⟩:=exE aV
 obtain⟨V,hV⟩:=exE aS
 obtain⟨X,hX⟩:=exE bR
 try rw[← hF]
 try rw[← hH]
 try rw[← hK]
 try rw[← hM]
 try rw[← hS]
 try rw[← hV]
 try rw[← hX]
 try rw[← hA]
 unfold FH at hg
 split at hg <;> cases hg
 rename_i r
 have i0:TyI r 1:=⟨Int.le_refl 1,by decide,fun i h1 h2=>by simp at h2;omega⟩
 cbv
 refine hL _ _ _ (aQ (un:=⟨false,some [1,2,3,4,5,6,7,9,25,65,68]⟩) tok LN aL (fun k:Int=>⟨[(5,⟨[], .c (.s (.int .i64 k))⟩),(4,⟨[], .c (.s (.tt false))⟩),(3,⟨[], .c (.s (.lit .i64 0))⟩),(2,⟨[], .c (.s (.lit .i64 0))⟩),(1,⟨[], .c (.s (.hp 0 0))⟩)],[(0, .fix true [.R r])],1⟩)
  (fun k=>TyI r k) (fun k=>(32 - k).toNat) 1 i0 ?_ (fun _ i hi=>by have:=hWr i hi;simp at this) ?_)
 ·exact⟨⟨⟨rfl,rfl,fun _=>rfl⟩,⟨rfl,rfl,fun _=>rfl⟩,⟨rfl,rfl,fun _=>rfl⟩,⟨rfl,rfl,fun _=>rfl⟩,⟨rfl,rfl,fun _=>rfl⟩,trivial⟩,⟨aF rfl,trivial⟩,rfl,rfl⟩
 clear i0
 rintro k hI A2 L2 k2 hA2 hL2 hnext hexit hret
 have st:=fun hb:A2.cmp .lss k 32=true=>L9 hI A2 hA2 K hK hb
 have en:=fun hb:A2.cmp .lss k 32=false=>Pf hI A hA F hF K hK (by rw[hA, ← hA2];exact hb)
 clear hI
 rw[← hA2, ← hS, ← hV, ← hX, ← hM, ← hF, ← hH, ← hK]
 cbv
 repeat' with_reducible first | (intro hb;cbv) | refine UM ?_ ?_
 all_goals first | exact(st hb).o1 | exact(st hb).o2 | exact ajW hA2 (st hb).o1 | exact ajW hA2 (st hb).o2 | skip
 ·rename_i hb0
  have e:=(st hb0).no hb
  apply hret
  clear hexit hnext hret st en
  cbv
  refine hk _ _ (bE.pure rfl fun ρ=>?_)
  subst hK
  exact Ih e.1 e.2.1 e.2.2
 ·rename_i hb0
  refine hnext _ (k+1) ((st hb0).nx hb) (st hb0).ms ?_
  have ead:=(st hb0).ad
  subst hA2
  exact⟨⟨⟨rfl,rfl,leI ead⟩,⟨rfl,rfl,fun _=>rfl⟩,⟨rfl,rfl,fun _=>rfl⟩,⟨rfl,rfl,fun _=>rfl⟩,⟨rfl,rfl,fun _=>rfl⟩,trivial⟩,⟨aF rfl,trivial⟩,rfl,rfl⟩
 ·apply hexit
  have em:=en hb
  clear hexit hnext hret st en hb
  cbv
  repeat' with_reducible first | (intro hb;cbv) | refine UM ?_ ?_
  all_goals first | exact ajW hA em.o1 | exact ajW hA em.o2 | skip
  ·have e:=em.no hb
   refine hk _ _ (bE.pure rfl fun ρ=>?_)
   subst hK
   exact Ih e.1 e.2.1 e.2.2
  ·rename_i h0
   have e1:=em.e1 h0 hb
   have e2:=em.d h0
   have e3:=em.ok h0
   refine hk _ _ (bE.pure rfl fun ρ=>?_)
   subst hK
   exact Ig e1 e2 e3
  ·rename_i h0
   have e1:=em.e0 h0 hb
   have e2:=em.d h0
   have e3:=em.ok h0
   refine hk _ _ (bE.pure rfl fun ρ=>?_)
   subst hK
   exact Ig e1 e2 e3
def tT7 (A:Alg) (S:SW) (V:SV) (X:SX) (M:SM) (F:SF) (H:SH) (K:SK):List (Nat×bU):=(122,aC [.v] A (FH K)) :: ((tT6 A S V X M F H K))
theorem Rc:COK Try.prog (aN (tT7 aA aV aS bR aZ aO bD cA)):=aB Ac (LN)
def oD (A:Alg) (K:SK):List CV→List Blk→Option LR
 | [.g [.R a], .g [.R b]],[]=>some ⟨[], .t [.s (.int .i64 (K.tyN a)), .s (.int .i64 (K.tyD a)), .s (.int .i64 (K.tyN b)), .s (.int .i64 (K.tyD b)), .s (.bool (A.ite (K.tyOK a) (K.tyOK b) false))],[]⟩
 | _,_=>none
theorem lE:aJ Try.prog 92 (aC [.v, .v] aA (oD aA cA)):=by
 refine aH (un:=⟨false,some [2,3,4,5,6,7,8,9,10,11,12,13,14]⟩) tok Rc aL (fn:=Try.f92) ?_
 intro w Wr args bs r hg ho hWr A L k hA hL hk
 obtain⟨F,hF⟩:=exE aO
 obtain⟨H,hH⟩:=exE bD
 obtain⟨K,hK⟩:=exE cA
 obtain⟨M,hM⟩:=exE aZ
 obtain⟨S,hS⟩:=exE aV
 obtain⟨V,hV⟩:=exE aS
 obtain⟨X,hX⟩:=exE bR
 try rw[← hF]
 try rw[← hH]
 try rw[← hK]
 try rw[← hM]
 try rw[← hS]
 try rw[← hV]
 try rw[← hX]
 try rw[← hA]
 unfold oD at hg
 split at hg <;> cases hg
 rename_i a b
 cbv
 refine hk _ _ (bE.pure rfl fun ρ=>?_)
 subst hA hK
 rfl
def isC (A:Alg) (S:SW) (r:Rt):Bool:=A.ite (A.ite (A.ite (S.isW r.N) (S.isW r.D) false) (A.not r.D.neg) false) (A.cmp .gtr (S.bits r.D) 0) false
structure Sn (A:Alg) (S:SW) (M:SM) (F:SF) (K:SK) (r:Rt):Prop where
 t:K.tyOK r=true→true=F.isR r
 o1:M.ok (M.of r.N)=true
 o2:M.ok (M.of r.D)=true
 o3:M.ok (M.gcd (M.of r.N) (M.of r.D))=true
 o4:M.ok [1]=true
 y:isC A S r=true→A.ite true (A.cmp .eql (M.cmp (M.gcd (M.of r.N) (M.of r.D)) [1]) 0) false=F.isR r
 n:isC A S r=false→false=F.isR r
theorem P8 (r:Rt) (A:Alg) (hA:A=aA) (S:SW) (hS:S=aV) (M:SM) (hM:M=aZ) (F:SF) (hF:F=aO) (K:SK) (hK:K=cA):Sn A S M F K r:=by
 have mf:=mfs A hA bR rfl M hM
 subst hA hS hM hF hK
 have hb0:decide (cS r.D > 0)=decide (r.D.d.n≠0):=by
  have:(cS r.D == 0)=decide (r.D.d.n=0):=sW r.D.d.n
  have hnn:0≤cS r.D:=Int.natCast_nonneg _
  by_cases h:r.D.d.n=0
  ·rw[h] at this ⊢
   rw[show decide ((0:Nat)=0)=true from rfl,beq_iff_eq] at this
   rw[decide_eq_false (by omega),decide_eq_false (by omega)]
  ·rw[decide_eq_false h,beq_eq_false_iff_ne] at this
   rw[decide_eq_true (by omega),decide_eq_true h]
 have hc:isC aA aV r=(gE r.N&&(gE r.D&&decide (0 < aK r.D))):=by
  unfold isC
  show(if(if(if gE r.N=true then gE r.D else false)=true then !r.D.neg else false)=true then decide (cS r.D > 0) else false)=_
  rw[hb0]
  have gp:decide (0 < aK r.D)=(!r.D.neg&&decide (r.D.d.n≠0)):=by
   unfold aK
   cases r.D.neg
   ·show decide (0 < ((r.D.d.n:Nat):Int))=(true&&decide (r.D.d.n≠0))
    rw[Bool.true_and,decide_eq_decide];omega
   ·show decide (0 < -((r.D.d.n:Nat):Int))=(false&&_)
    rw[Bool.false_and];exact decide_eq_false (by omega)
  rw[gp]
  cases gE r.N <;> cases gE r.D <;> cases r.D.neg <;> cases decide (r.D.d.n≠0) <;> rfl
 have he:aO.isR r=(gE r.N&&(gE r.D&&(decide (0 < aK r.D)&&decide (Int.gcd (aK r.N) (aK r.D)=1)))):=rfl
 refine⟨fun h=>?_,mf.of _,mf.of _,mf.gcd _ _,by decide +kernel,fun h=>?_,fun h=>?_⟩
 ·have h:tyB r=true:=h
  exact(lC.2 (BU h).1.is).symm
 ·rw[hc] at h
  simp only[Bool.and_eq_true] at h
  rw[he,h.1,h.2.1,h.2.2]
  show(sgn (aM (bS (Nat.gcd (aM (bS r.N.d.n)) (aM (bS r.D.d.n))))) (aM [1]) == 0)=decide (Int.gcd (aK r.N) (aK r.D)=1)
  rw[bL,bL,bL]
  have:Int.gcd (aK r.N) (aK r.D)=Nat.gcd r.N.d.n r.D.d.n:=by unfold Int.gcd;rw[bF,bF]
  rw[this]
  have h1:((aM [1]:Nat):Int)=1:=rfl
  rw[h1]
  unfold sgn
  by_cases hg:Nat.gcd r.N.d.n r.D.d.n=1
  ·rw[hg];rfl
  ·rw[decide_eq_false hg]
   split
   ·rfl
   ·split
    ·rfl
    ·omega
 ·rw[hc] at h
  rw[he]
  revert h
  cases gE r.N <;> cases gE r.D <;> cases decide (0 < aK r.D) <;> intro h <;> first | rfl | cases h
def tI2 (A:Alg) (S:SW) (M:SM) (F:SF) (K:SK):List (Nat×bU):=(122,aC [.v] A (FH K)) :: (131,aC [.v] A (gIs S)) :: (110,aC [.v] A (vY S)) :: (74,bV [.v] A (HQ M)) :: (132,bV [.s (.int .u32), .s (.int .u32)] A (FF A M)) :: (124,aC [.s (.int .u32), .s (.int .u32)] A (FE A M)) :: ([])
theorem QS:COK Try.prog (aN (tI2 aA aV aZ aO cA)):=aB Ac (aB HX (aB rB (aB sZ (aB DL (aB DJ (bC))))))
theorem KP:aJ Try.prog 111 (aC [.v] aA (Ml aO)):=by
 refine aH (un:=⟨false,some [1000033,1,2,5,12]⟩) tok QS aL (fn:=Try.f111) ?_
 intro w Wr args bs r hg ho hWr A L k hA hL hk
 obtain⟨F,hF⟩:=exE aO
 obtain⟨K,hK⟩:=exE cA
 obtain⟨M,hM⟩:=exE aZ
 obtain⟨S,hS⟩:=exE aV
 try rw[← hF]
 try rw[← hK]
 try rw[← hM]
 try rw[← hS]
 try rw[← hA]
 unfold Ml at hg
 split at hg <;> cases hg
 rename_i r
 have sf:=P8 r A hA S hS M hM F hF K hK
 cbv
 repeat' with_reducible first | (intro hb;cbv) | refine UM ?_ ?_
 ·have e:=sf.t hb
  refine hk _ _ (bE.pure rfl fun ρ=>?_)
  subst hF
  exact BH e
 ·have b1: ∀ b c,b=c→A.beq b c=true:=fun b c h=>by subst hA h;show(b == b)=true;cases b <;> rfl
  refine IL (isC A S r) (fun hc=>Or.inl ?_) (fun hc=>Or.inr ?_)
  ·repeat' with_reducible first | (intro hb;cbv) | refine UM ?_ ?_
   all_goals first | exact b1 _ _ hc | exact sf.o1 | exact sf.o2 | exact sf.o3 | exact sf.o4 | skip
   refine hk _ _ (bE.pure rfl fun ρ=>?_)
   have e:=sf.y hc
   subst hA hF
   exact yQ e
  ·repeat' with_reducible first | (intro hb;cbv) | refine UM ?_ ?_
   all_goals first | exact b1 _ _ hc | skip
   refine hk _ _ (bE.pure rfl fun ρ=>?_)
   have e:=sf.n hc
   subst hA hF
   exact BH e
section
variable {ρ:Rho} {f:Nat→Nat}
theorem rR {k:IntKind} {a c:Int} {b d:Bool} (h1:a=c) (h2:b=d):(XV.t [.s (.lit k a), .s (.tt b)]).den ρ=((XV.t [.s (.int k c), .s (.bool d)]).ren f).den ρ:=by subst h1 h2;rfl
end
def tI3 (A:Alg) (S:SW) (F:SF):List (Nat×bU):=(110,aC [.v] A (vY S)) :: (111,aC [.v] A (Ml F)) :: ([])
theorem QT:COK Try.prog (aN (tI3 aA aV aO)):=aB rB (aB KP (bC))
theorem Ab:aJ Try.prog 88 (aC [.v, .v] aA (qN aO)):=by
 refine aH (un:=⟨false,some [1,2,4]⟩) tok QT aL (fn:=Try.f88) ?_
 intro w Wr args bs r hg ho hWr A L k hA hL hk
 obtain⟨F,hF⟩:=exE aO
 obtain⟨S,hS⟩:=exE aV
 try rw[← hF]
 try rw[← hS]
 try rw[← hA]
 unfold qN at hg
 split at hg <;> cases hg
 rename_i r n
 have f:A.ite (A.ite (A.cmp .leq (S.bits r.N) n) (A.cmp .leq (S.bits r.D) n) false) (F.isR r) false=F.safe r n:=by
  subst hA hS hF
  show(if(if decide (cS r.N≤n)=true then decide (cS r.D≤n) else false)=true then Bj r else false)=cQ r n
  unfold cQ
  cases decide (cS r.N≤n) <;> cases decide (cS r.D≤n) <;> rfl
 cbv
 refine hk _ _ (bE.pure rfl fun ρ=>?_)
 subst hF
 exact yQ f
def Bf (F:SF):List CV→List Blk→Option LR
 | [.g [.R a], .g [.R b]],[]=>some ⟨[], .c (.s (.bool (F.two a b))),[]⟩
 | _,_=>none
def tI4 (A:Alg) (F:SF):List (Nat×bU):=(88,aC [.v, .v] A (qN F)) :: ([])
theorem QU:COK Try.prog (aN (tI4 aA aO)):=aB Ab (bC)
theorem u9:aJ Try.prog 93 (aC [.v, .v] aA (Bf aO)):=by
 refine aH (un:=⟨false,some [2,3,4]⟩) tok QU aL (fn:=Try.f93) ?_
 intro w Wr args bs r hg ho hWr A L k hA hL hk
 obtain⟨F,hF⟩:=exE aO
 try rw[← hF]
 try rw[← hA]
 unfold Bf at hg
 split at hg <;> cases hg
 rename_i a b
 have f:A.ite (F.safe a 500) (F.safe b 500) false=F.two a b:=by
  subst hA hF
  show(if cQ a 500=true then cQ b 500 else false)=(cQ a 500&&cQ b 500)
  cases cQ a 500 <;> rfl
 cbv
 refine hk _ _ (bE.pure rfl fun ρ=>?_)
 subst hF
 exact yQ f
structure RcF (A:Alg) (S:SW) (V:SV) (F:SF) (K:SK) (a b:Rt):Prop where
 s:A.ite (K.tyOK a) (K.tyOK b) false=true→true=F.two a b
 lt:A.ite (K.tyOK a) (K.tyOK b) false=true→A.cmp .lss (A.bin .mul .i64 (K.tyN a) (K.tyD b)) (A.bin .mul .i64 (K.tyN b) (K.tyD a))=true→ -1=F.cmp a b
 gt:A.ite (K.tyOK a) (K.tyOK b) false=true→A.cmp .lss (A.bin .mul .i64 (K.tyN a) (K.tyD b)) (A.bin .mul .i64 (K.tyN b) (K.tyD a))=false→A.cmp .gtr (A.bin .mul .i64 (K.tyN a) (K.tyD b)) (A.bin .mul .i64 (K.tyN b) (K.tyD a))=true→1=F.cmp a b
 eq:A.ite (K.tyOK a) (K.tyOK b) false=true→A.cmp .lss (A.bin .mul .i64 (K.tyN a) (K.tyD b)) (A.bin .mul .i64 (K.tyN b) (K.tyD a))=false→A.cmp .gtr (A.bin .mul .i64 (K.tyN a) (K.tyD b)) (A.bin .mul .i64 (K.tyN b) (K.tyD a))=false→0=F.cmp a b
 no:A.not (F.two a b)=true→0=F.cmp a b∧false=F.two a b
 ok:A.not (F.two a b)=false→S.cmp (V.mul a.N b.D) (V.mul b.N a.D)=F.cmp a b∧true=F.two a b
theorem tX {a b:Rt} (h:dK a b=true):aO.cmp a b=cZ (bI a) (bI b):=if_pos h
theorem S7 (a b:Rt) (A:Alg) (hA:A=aA) (S:SW) (hS:S=aV) (V:SV) (hV:V=aS) (F:SF) (hF:F=aO) (K:SK) (hK:K=cA):RcF A S V F K a b:=by
 subst hA hS hV hF hK
 have sm:aA.ite (cA.tyOK a) (cA.tyOK b) false=true→dK a b=true∧pW aA a b:=fun h=>by
  have h:(if tyB a=true then tyB b else false)=true:=h
  cases ha:tyB a
  ·rw[ha] at h;cases h
  ·rw[ha] at h
   exact⟨AB ha h,vG ha h _ rfl⟩
 refine⟨fun h=>(sm h).1.symm,fun h h1=>?_,fun h h1 h2=>?_,fun h h1 h2=>?_,fun h=>?_,fun h=>?_⟩
 ·obtain⟨t,k⟩:=sm h
  rw[k.lt,decide_eq_true_eq] at h1
  rw[tX t];unfold cZ;rw[if_pos h1]
 ·obtain⟨t,k⟩:=sm h
  rw[k.lt,decide_eq_false_iff_not] at h1
  rw[k.gt,decide_eq_true_eq] at h2
  rw[tX t];unfold cZ;rw[if_neg h1,if_pos h2]
 ·obtain⟨t,k⟩:=sm h
  rw[k.lt,decide_eq_false_iff_not] at h1
  rw[k.gt,decide_eq_false_iff_not] at h2
  rw[tX t];unfold cZ;rw[if_neg h1,if_neg h2]
 ·have h:(!dK a b)=true:=h
  rw[Bool.not_eq_true'] at h
  refine⟨?_,h.symm⟩
  show 0=if dK a b=true then _ else 0
  rw[h];rfl
 ·have h:(!dK a b)=false:=h
  rw[Bool.not_eq_false'] at h
  refine⟨?_,h.symm⟩
  rw[tX h]
  exact(IH h).cmp
def tI5 (A:Alg) (S:SW) (V:SV) (F:SF) (K:SK):List (Nat×bU):=(92,aC [.v, .v] A (oD A K)) :: (93,aC [.v, .v] A (Bf F)) :: (94,aC [.v, .v] A (JG V)) :: (95,aC [.v, .v] A (yB S)) :: ([])
theorem QV:COK Try.prog (aN (tI5 aA aV aS aO cA)):=aB lE (aB u9 (aB DM (aB z7 (bC))))
theorem Gs:aJ Try.prog 68 (aC [.v, .v] aA (A1 aO)):=by
 refine aH (un:=⟨false,some [2,3,4,5,6,7,8,9,10,11,12,13,14,24,25,33,44]⟩) tok QV aL (fn:=Try.f68) ?_
 intro w Wr args bs r hg ho hWr A L k hA hL hk
 obtain⟨F,hF⟩:=exE aO
 obtain⟨K,hK⟩:=exE cA
 obtain⟨S,hS⟩:=exE aV
 obtain⟨V,hV⟩:=exE aS
 try rw[← hF]
 try rw[← hK]
 try rw[← hS]
 try rw[← hV]
 try rw[← hA]
 unfold A1 at hg
 split at hg <;> cases hg
 rename_i a b
 have rc:=S7 a b A hA S hS V hV F hF K hK
 cbv
 repeat' with_reducible first | (intro hb;cbv) | refine UM ?_ ?_
 ·rename_i h0
  have e:=rc.lt h0 hb
  have e2:=rc.s h0
  refine hk _ _ (bE.pure rfl fun ρ=>?_)
  subst hF
  exact rR e e2
 ·rename_i h0 h1
  have e:=rc.gt h0 h1 hb
  have e2:=rc.s h0
  refine hk _ _ (bE.pure rfl fun ρ=>?_)
  subst hF
  exact rR e e2
 ·rename_i h0 h1
  have e:=rc.eq h0 h1 hb
  have e2:=rc.s h0
  refine hk _ _ (bE.pure rfl fun ρ=>?_)
  subst hF
  exact rR e e2
 ·have e:=rc.no hb
  refine hk _ _ (bE.pure rfl fun ρ=>?_)
  subst hF
  exact rR e.1 e.2
 ·have e:=rc.ok hb
  refine hk _ _ (bE.pure rfl fun ρ=>?_)
  subst hF hS hV
  exact EE e.1 e.2
end Go.Eng
