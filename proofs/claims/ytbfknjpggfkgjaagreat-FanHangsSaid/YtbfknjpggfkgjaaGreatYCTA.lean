
import Derived.Test.YtbfknjpggfkgjaaGreatYCRB
import Derived.Test.YtbfknjpggfkgjaaGreatYCMB
import Derived.Test.YtbfknjpggfkgjaaGreatSpecFA
import Derived.Test.YtbfknjpggfkgjaaGreatEngZA
set_option linter.all false
set_option exponentiation.threshold 3000
set_option maxRecDepth 100000
set_option maxHeartbeats 2000000
namespace Go.Eng
open Go.Proofs
def Mo (A:Alg) (X:SX) (M:SM):List CV→List Blk→Option LR
 | [.s (.bool b), .s (.hs 0), .s (.hs 1)],[.vec false (.int .u32) l, .vec false (.int .u32) m]=>some ⟨[M.ok l,M.ok m,M.nz m], .t [.g [.R ⟨X.wV b (M.dq l (M.gcd l m)),X.wV false (M.dq m (M.gcd l m))⟩], .s (.bool (A.ite (X.wOK (M.dq l (M.gcd l m))) (X.wOK (M.dq m (M.gcd l m))) false))],[]⟩
 | _,_=>none
structure RaF (A:Alg) (X:SX) (M:SM) (l m:List Int):Prop where
 hl:M.ok l=true
 hm:M.ok m=true
 g:M.ok (M.gcd l m)=true
 z:M.nz (M.gcd l m)=true
 p1:A.cmp .lss (A.len (M.dq l (M.gcd l m))) 1000000=true
 p2:X.rng (M.dq l (M.gcd l m))=true
 q1:A.cmp .lss (A.len (M.dq m (M.gcd l m))) 1000000=true
 q2:X.rng (M.dq m (M.gcd l m))=true
theorem Mag.sub {l:List Int} {n:Nat} (h:Mag l) (hn:n≤aM l):Mag (bS n):=Mag.lt (Nat.lt_of_le_of_lt hn h.small) (Nat.le_refl _)
theorem S6 {l m:List Int} (A:Alg) (hA:A=aA) (X:SX) (hX:X=bR) (M:SM) (hM:M=aZ) (hl:M.ok l=true) (hm:M.ok m=true) (hz:M.nz m=true):RaF A X M l m:=by
 have mf:=mfs A hA X hX M hM
 subst hA hX hM
 have hl':Mag l:=aX.1 hl
 have hm':Mag m:=aX.1 hm
 have hz':aM m≠0:=of_decide_eq_true hz
 have hg0:Nat.gcd (aM l) (aM m)≠0:=fun h=>hz' (Nat.eq_zero_of_gcd_eq_zero_right h)
 have g:aZ.ok (aZ.gcd l m)=true:=aX.2 (hm'.sub (Nat.gcd_le_right _ (by omega)))
 have d1:aZ.ok (aZ.dq l (aZ.gcd l m))=true:=aX.2 (hl'.sub (Nat.div_le_self _ _))
 have d2:aZ.ok (aZ.dq m (aZ.gcd l m))=true:=aX.2 (hm'.sub (Nat.div_le_self _ _))
 exact⟨hl,hm,g,decide_eq_true (by show aM (bS _)≠0;rw[bL];exact hg0),mf.ok1 _ d1,mf.ok2 _ d1,mf.ok1 _ d2,mf.ok2 _ d2⟩
def tG8 (A:Alg) (S:SW) (V:SV) (X:SX) (M:SM) (F:SF) (H:SH):List (Nat×bU):=((tG7 A S V X M F H)++(R2 A S V X M))
theorem OG:COK Tryz.prog (aN (tG8 aA aV aS bR aZ aO bD)):=It QQ ON
theorem u7:aJ Tryz.prog 100 (aC [.v, .s (.int .u32), .s (.int .u32)] aA (Mo aA bR aZ)):=by
 refine aH (un:=⟨false,some [0,1,2,6,7,8,9,10,11,12,13,14,15,16]⟩) tok OG aL (fn:=Tryz.f100) ?_
 intro w Wr args bs r hg ho hWr A L k hA hL hk
 obtain⟨F,hF⟩:=exE aO
 obtain⟨H,hH⟩:=exE bD
 obtain⟨M,hM⟩:=exE aZ
 obtain⟨S,hS⟩:=exE aV
 obtain⟨V,hV⟩:=exE aS
 obtain⟨X,hX⟩:=exE bR
 try rw[← hF]
 try rw[← hH]
 try rw[← hM]
 try rw[← hS]
 try rw[← hV]
 try rw[← hX]
 try rw[← hA]
 unfold Mo at hg
 split at hg <;> cases hg
 rename_i b l m
 have h1:=(aG ho).1
 have h2:=(aG (aG ho).2).1
 have h3:=(aG (aG (aG ho).2).2).1
 clear ho
 rw[← hM] at h1 h2 h3
 have ra:=S6 A hA X hX M hM h1 h2 h3
 cbv
 repeat' with_reducible first | (intro hb;cbv) | refine UM ?_ ?_
 all_goals first | exact ra.hl | exact ra.hm | exact ra.g | exact ra.z | exact ra.p1 | exact ra.p2 | exact ra.q1 | exact ra.q2 | skip
 refine hk _ _ (bE.pure rfl fun ρ=>?_)
 subst hA hX hM
 exact xA rfl rfl
def tT1 (A:Alg) (S:SW) (V:SV) (X:SX) (M:SM) (F:SF) (H:SH):List (Nat×bU):=(100,aC [.v, .s (.int .u32), .s (.int .u32)] A (Mo A X M)) :: ((tG8 A S V X M F H))
theorem OT:COK Tryz.prog (aN (tT1 aA aV aS bR aZ aO bD)):=aB u7 (OG)
theorem El (s:Bool) {g n:Nat} (h:g ∣n) (hg:g≠0):sgd s n / (g:Int)=sgd s (n / g):=by
 obtain⟨c,rfl⟩:=h
 rw[Nat.mul_div_cancel_left _ (by omega)]
 cases s
 ·show((g*c:Nat):Int) / (g:Int)=(c:Int)
  rw[Int.natCast_mul,Int.mul_ediv_cancel_left _ (by omega)]
 ·show -((g*c:Nat):Int) / (g:Int)= -(c:Int)
  rw[Int.natCast_mul, ← Int.mul_neg,Int.mul_ediv_cancel_left _ (by omega)]
def tT2 (A:Alg) (S:SW) (V:SV) (X:SX) (M:SM) (F:SF) (H:SH):List (Nat×bU):=((tT1 A S V X M F H))
theorem LL:COK Tryz.prog (aN (tT2 aA aV aS bR aZ aO bD)):=OT
def qO (A:Alg) (H:SH):List CV→List Blk→Option LR
 | [.s (.int .i64 n)],[]=>some ⟨[A.cmp .leq (-9223372036854775808) n,A.cmp .lss n 9223372036854775808], .c (.g [.R (H.whole n)]),[]⟩
 | _,_=>none
theorem rC:aJ Tryz.prog 21 (aC [.v] aA (qO aA bD)):=by
 refine aH (un:=⟨false,some [0,2]⟩) tok LL aL (fn:=Tryz.f21) ?_
 intro w Wr args bs r hg ho hWr A L k hA hL hk
 obtain⟨F,hF⟩:=exE aO
 obtain⟨H,hH⟩:=exE bD
 obtain⟨M,hM⟩:=exE aZ
 obtain⟨S,hS⟩:=exE aV
 obtain⟨V,hV⟩:=exE aS
 obtain⟨X,hX⟩:=exE bR
 try rw[← hF]
 try rw[← hH]
 try rw[← hM]
 try rw[← hS]
 try rw[← hV]
 try rw[← hX]
 try rw[← hA]
 unfold qO at hg
 split at hg <;> cases hg
 rename_i n
 have o1:=(aG ho).1
 have o2:=(aG (aG ho).2).1
 clear ho
 have e:(⟨S.from64 n,S.from64 1⟩:Rt)=H.whole n:=by
  simp only[aA,aP,decide_eq_true_eq] at o1 o2
  subst hS hH
  exact(q8 (by show n.natAbs < 2 ^ 64;omega)).2.2
 have j1:A.cmp .leq (-9223372036854775808) 1=true:=bJ A hA _ _ (by omega)
 have j2:A.cmp .lss 1 9223372036854775808=true:=bH A hA _ _ (by omega)
 rw[← hA] at o1 o2
 cbv
 repeat' with_reducible first | (intro hb;cbv) | refine UM ?_ ?_
 all_goals first | exact o1 | exact o2 | exact j1 | exact j2 | skip
 refine hk _ _ (bE.pure rfl fun ρ=>?_)
 subst hS hH
 exact yR e
def tT3 (A:Alg) (S:SW) (V:SV) (X:SX) (M:SM) (F:SF) (H:SH):List (Nat×bU):=(21,aC [.v] A (qO A H)) :: ((tT2 A S V X M F H))
theorem LM:COK Tryz.prog (aN (tT3 aA aV aS bR aZ aO bD)):=aB rC (LL)
def Jm (K:SK) (F:SF):List CV→List Blk→Option LR
 | [.s (.int .i64 a), .s (.int .i64 b)],[]=>some ⟨[K.b63 a,K.b63 b], .c (.s (.int .i64 (F.com a b))),[]⟩
 | _,_=>none
structure CoK (a0 b0 a b:Int):Prop where
 a1:0≤a
 a2:a≤9223372036854775807
 b1:0≤b
 b2:b≤9223372036854775807
 eq:Nat.gcd a.toNat b.toNat=Nat.gcd a0.natAbs b0.natAbs
structure Iu (A:Alg) (a0 b0 a b:Int):Prop where
 nx:CoK a0 b0 b (A.bin .rem .i64 a b)
 ms:(A.bin .rem .i64 a b).toNat < b.toNat
 nz:A.cmp .neq b 0=true
theorem Ft {a0 b0 a b:Int} (hI:CoK a0 b0 a b) (A:Alg) (hA:A=aA) (hb:A.cmp .gtr b 0=true):Iu A a0 b0 a b:=by
 subst hA
 have hb:b > 0:=of_decide_eq_true hb
 obtain⟨a1,a2,b1,b2,heq⟩:=hI
 have e:aA.bin .rem .i64 a b=((a.toNat % b.toNat:Nat):Int):=by
  show a.tmod b=_
  rw[Int.tmod_eq_emod_of_nonneg a1,Int.natCast_emod,Int.toNat_of_nonneg a1,Int.toNat_of_nonneg b1]
 have hlt:=Nat.mod_lt a.toNat (show 0 < b.toNat by omega)
 refine⟨?_,by rw[e,Int.toNat_natCast];exact hlt,by show(b != 0)=true;rw[bne_iff_ne];omega⟩
 rw[e]
 refine⟨b1,b2,by omega,by omega,?_⟩
 rw[Int.toNat_natCast, ← heq,Nat.gcd_comm b.toNat, ← Nat.gcd_rec,Nat.gcd_comm]
theorem IT {a0 b0 a b:Int} (hI:CoK a0 b0 a b) (A:Alg) (hA:A=aA) (F:SF) (hF:F=aO) (hb:A.cmp .gtr b 0=false):a=F.com a0 b0:=by
 subst hA hF
 have hb: ¬ b > 0:=of_decide_eq_false hb
 obtain⟨a1,a2,b1,b2,heq⟩:=hI
 have h0:b=0:=by omega
 rw[h0] at heq
 show a=((Nat.gcd a0.natAbs b0.natAbs:Nat):Int)
 rw[← heq]
 show a=((Nat.gcd a.toNat 0:Nat):Int)
 rw[Nat.gcd_zero_right];omega
theorem Dz {a:Int} (h1: -9223372036854775807≤a) (h2:a≤9223372036854775807):aA.mx a (aA.bin .sub .i64 0 a)=(a.natAbs:Int):=by
 have e:aA.bin .sub .i64 0 a= -a:=by show aD .sub .i64 0 a= -a;simp only[aD,IntKind.wrap_i64];omega
 rw[e]
 show(if -a > a then -a else a)=_
 split <;> omega
theorem Fs {a b:Int} (ha: -9223372036854775807≤a∧a≤9223372036854775807) (hb: -9223372036854775807≤b∧b≤9223372036854775807) (A:Alg) (hA:A=aA):CoK a b (A.mx a (A.bin .sub .i64 0 a)) (A.mx b (A.bin .sub .i64 0 b)):=by
 subst hA
 rw[Dz ha.1 ha.2,Dz hb.1 hb.2]
 exact⟨by omega,by omega,by omega,by omega,by rw[Int.toNat_natCast,Int.toNat_natCast]⟩
theorem KM:aJ Tryz.prog 141 (aC [.v, .v] aA (Jm cA aO)):=by
 refine aH (un:=⟨false,some [0,1,4,14]⟩) tok LM aL (fn:=Tryz.f141) ?_
 intro w Wr args bs r hg ho hWr A L k hA hL hk
 obtain⟨F,hF⟩:=exE aO
 obtain⟨H,hH⟩:=exE bD
 obtain⟨K,hK⟩:=exE cA
 obtain⟨M,hM⟩:=exE aZ
 obtain⟨S,hS⟩:=exE aV
 obtain⟨V,hV⟩:=exE aS
 obtain⟨X,hX⟩:=exE bR
 try rw[← hF]
 try rw[← hH]
 try rw[← hK]
 try rw[← hM]
 try rw[← hS]
 try rw[← hV]
 try rw[← hX]
 try rw[← hA]
 unfold Jm at hg
 split at hg <;> cases hg
 rename_i a b
 have ha:=lW.1 ((aG ho).1)
 have hb:=lW.1 ((aG (aG ho).2).1)
 clear ho
 have i0:=Fs ha hb A hA
 cbv
 refine hL _ _ _ (aQ (un:=⟨false,some [0,1,4,14]⟩) tok LM aL (fun p:Int×Int=>⟨[(1,⟨[], .c (.s (.int .i64 p.2))⟩),(0,⟨[], .c (.s (.int .i64 p.1))⟩)],[],0⟩)
  (fun p=>CoK a b p.1 p.2) (fun p=>p.2.toNat) (_,_) i0 ?_ (fun _ i hi=>by have:=hWr i hi;simp at this) ?_)
 ·exact⟨⟨⟨rfl,rfl,fun _=>rfl⟩,⟨rfl,rfl,fun _=>rfl⟩,trivial⟩,trivial,rfl,rfl⟩
 clear i0
 rintro⟨x,y⟩ hI A2 L2 k2 hA2 hL2 hnext hexit hret
 have st:=fun hb=>Ft hI A2 hA2 hb
 have en:=fun hb=>IT hI A hA F hF (by rw[hA, ← hA2];exact hb)
 clear hI
 rw[← hA2, ← hS, ← hV, ← hX, ← hM, ← hF, ← hH]
 cbv
 repeat' with_reducible first | (intro hb;cbv) | refine UM ?_ ?_
 all_goals first | exact(st hb).nz | skip
 ·refine hnext _ (_,_) (st hb).nx (st hb).ms ?_
  exact⟨⟨⟨rfl,rfl,fun _=>rfl⟩,⟨rfl,rfl,fun _=>rfl⟩,trivial⟩,trivial,rfl,rfl⟩
 ·apply hexit
  have em:=en hb
  clear hexit hnext hret st en hb
  cbv
  refine hk _ _ (bE.pure rfl fun ρ=>?_)
  subst hF
  exact B2 em
def tT5 (A:Alg) (S:SW) (V:SV) (X:SX) (M:SM) (F:SF) (H:SH) (K:SK):List (Nat×bU):=(141,aC [.v, .v] A (Jm K F)) :: ((tT3 A S V X M F H))
theorem OU:COK Tryz.prog (aN (tT5 aA aV aS bR aZ aO bD cA)):=aB KM (LM)
def sS (A:Alg) (F:SF) (K:SK):List CV→List Blk→Option LR
 | [.s (.int .i64 n), .s (.int .i64 d)],[]=>some ⟨[K.b63 n,K.b63 d,A.cmp .gtr d 0], .c (.g [.R (F.made n d)]),[]⟩
 | _,_=>none
structure QkF (A:Alg) (S:SW) (F:SF) (n d:Int):Prop where
 o3:A.cmp .neq (F.com n d) 0=true
 q1:A.cmp .leq (-9223372036854775808) (A.bin .quo .i64 n (F.com n d))=true
 q2:A.cmp .lss (A.bin .quo .i64 n (F.com n d)) 9223372036854775808=true
 q3:A.cmp .leq (-9223372036854775808) (A.bin .quo .i64 d (F.com n d))=true
 q4:A.cmp .lss (A.bin .quo .i64 d (F.com n d)) 9223372036854775808=true
 eq:(⟨S.from64 (A.bin .quo .i64 n (F.com n d)),S.from64 (A.bin .quo .i64 d (F.com n d))⟩:Rt)=F.made n d
theorem S4 {n d:Int} (hn: -9223372036854775807≤n∧n≤9223372036854775807) (hd:d≤9223372036854775807) (h0:0 < d) (A:Alg) (hA:A=aA) (S:SW) (hS:S=aV) (F:SF) (hF:F=aO):QkF A S F n d:=by
 subst hA hS hF
 obtain⟨G,hG⟩: ∃ G:Nat,G=Nat.gcd n.natAbs d.natAbs:=⟨_,rfl⟩
 have ec:aO.com n d=(G:Int):=by rw[hG];rfl
 have hG0:0 < G:=by rw[hG];exact Nat.gcd_pos_of_pos_right _ (by omega)
 have dn:(G:Int) ∣n:=by rw[hG];exact Int.ofNat_dvd_left.2 (Nat.gcd_dvd_left _ _)
 have dd:(G:Int) ∣d:=by rw[hG];exact Int.ofNat_dvd_left.2 (Nat.gcd_dvd_right _ _)
 have quo: ∀ z:Int, -9223372036854775807≤z∧z≤9223372036854775807→(G:Int) ∣z→aA.bin .quo .i64 z (G:Int)=z / (G:Int)∧ -9223372036854775807≤z / (G:Int)∧z / (G:Int)≤9223372036854775807:=fun z hz hdv=>by
  obtain⟨c,rfl⟩:=hdv
  have h1:((G:Int)*c) / (G:Int)=c:=Int.mul_ediv_cancel_left _ (by omega)
  have h2:((G:Int)*c).tdiv (G:Int)=c:=Int.mul_tdiv_cancel_left _ (by omega)
  have hb:c.natAbs≤((G:Int)*c).natAbs:=by rw[Int.natAbs_mul];exact Nat.le_mul_of_pos_left _ (by omega)
  have hc: -9223372036854775807≤c∧c≤9223372036854775807:=by omega
  rw[h1]
  refine⟨?_,hc⟩
  show IntKind.i64.wrap (((G:Int)*c).tdiv (G:Int))=c
  rw[h2,IntKind.wrap_i64];omega
 obtain⟨qn,bn1,bn2⟩:=quo n hn dn
 obtain⟨qd,bd1,bd2⟩:=quo d ⟨by omega,hd⟩ dd
 have h2:(Rat.divInt n d).num=n / (G:Int):=by
  rw[Rat.num_divInt,Int.sign_eq_one_of_pos h0,Int.one_mul,Int.gcd_comm];rw[hG];rfl
 have h3:((Rat.divInt n d).den:Int)=d / (G:Int):=by
  rw[Rat.den_divInt,if_neg (by omega),Int.gcd_comm]
  show((d.natAbs / Nat.gcd n.natAbs d.natAbs:Nat):Int)=_
  rw[← hG,Int.natCast_ediv]
  congr 1;omega
 exact {
  o3:=by rw[ec];show((G:Int) != 0)=true;rw[bne_iff_ne];omega
  q1:=by rw[ec,qn];exact bJ _ rfl _ _ (by omega)
  q2:=by rw[ec,qn];exact bH _ rfl _ _ (by omega)
  q3:=by rw[ec,qd];exact bJ _ rfl _ _ (by omega)
  q4:=by rw[ec,qd];exact bH _ rfl _ _ (by omega)
  eq:=by
   rw[ec,qn,qd]
   show _=ofQ (Rat.divInt n d)
   unfold ofQ
   rw[h2,h3]
   rfl }
theorem nH:aJ Tryz.prog 95 (aC [.v, .v] aA (sS aA aO cA)):=by
 refine aH (un:=⟨false,some [0,1,4,5]⟩) tok OU aL (fn:=Tryz.f95) ?_
 intro w Wr args bs r hg ho hWr A L k hA hL hk
 obtain⟨F,hF⟩:=exE aO
 obtain⟨H,hH⟩:=exE bD
 obtain⟨K,hK⟩:=exE cA
 obtain⟨M,hM⟩:=exE aZ
 obtain⟨S,hS⟩:=exE aV
 obtain⟨V,hV⟩:=exE aS
 obtain⟨X,hX⟩:=exE bR
 try rw[← hF]
 try rw[← hH]
 try rw[← hK]
 try rw[← hM]
 try rw[← hS]
 try rw[← hV]
 try rw[← hX]
 try rw[← hA]
 unfold sS at hg
 split at hg <;> cases hg
 rename_i n d
 have hn0:=(aG ho).1
 have hd0:=(aG (aG ho).2).1
 have h0:0 < d:=of_decide_eq_true (aG (aG (aG ho).2).2).1
 have hn:=lW.1 hn0
 have hd:=lW.1 hd0
 clear ho
 rw[← hK] at hn0 hd0
 have qf:=S4 hn hd.2 h0 A hA S hS F hF
 cbv
 repeat' with_reducible first | (intro hb;cbv) | refine UM ?_ ?_
 all_goals first | exact hn0 | exact hd0 | exact qf.o3 | exact qf.q1 | exact qf.q2 | exact qf.q3 | exact qf.q4 | skip
 refine hk _ _ (bE.pure rfl fun ρ=>?_)
 have e:=qf.eq
 subst hF hS hA
 exact yR e
def tT6 (A:Alg) (S:SW) (V:SV) (X:SX) (M:SM) (F:SF) (H:SH) (K:SK):List (Nat×bU):=(95,aC [.v, .v] A (sS A F K)) :: ((tT5 A S V X M F H K))
theorem LN:COK Tryz.prog (aN (tT6 aA aV aS bR aZ aO bD cA)):=aB nH (OU)
theorem ajW {A:Alg} (hA:A=aA) {b c:Bool} (h:c=true):A.imp b c=true:=by
 subst hA;subst h;show(!b||true)=true;simp
section
variable {ρ:Rho} {f:Nat→Nat}
theorem Ih {k:IntKind} {a b c d:Int} {x y:Bool} (h1:a=c) (h2:b=d) (h3:x=y):(XV.t [.s (.lit k a), .s (.lit k b), .s (.tt x)]).den ρ=((XV.t [.s (.int k c), .s (.int k d), .s (.bool y)]).ren f).den ρ:=by subst h1 h2 h3;rfl
theorem Ig {k:IntKind} {a b c d:Int} {x y:Bool} (h1:a=c) (h2:b=d) (h3:x=y):(XV.t [.s (.int k a), .s (.int k b), .s (.tt x)]).den ρ=((XV.t [.s (.int k c), .s (.int k d), .s (.bool y)]).ren f).den ρ:=by subst h1 h2 h3;rfl
end
def FH (K:SK):List CV→List Blk→Option LR
 | [.g [.R r]],[]=>some ⟨[], .t [.s (.int .i64 (K.tyN r)), .s (.int .i64 (K.tyD r)), .s (.bool (K.tyOK r))],[]⟩
 | _,_=>none
structure TyI (r:Rt) (k:Int):Prop where
 k0:1≤k
 k1:k≤32
 z: ∀ i,1≤i→i < k.toNat→r.N.d.dig i=0∧r.D.d.dig i=0
theorem oF (d:Dg):(∀ i,1≤i→i < 32→d.dig i=0)↔d.n < 2 ^ 32:=by
 constructor
 ·intro h2
  have key: ∀ k,k≤31→d.n % 2 ^ (32*(k+1)) < 2 ^ 32:=fun k=>by
   induction k with
   | zero=>intro _;rw[show 32*(0+1)=32 by rfl];exact Nat.mod_lt _ (by decide)
   | succ k ih=>
    intro hk
    rw[iP d (k+1),h2 (k+1) (by omega) (by omega),Nat.mul_zero,Nat.add_zero]
    exact ih (by omega)
  have:=key 31 (Nat.le_refl _)
  rwa [show 32*(31+1)=32*32 by rfl,lZ] at this
 ·intro h i hi _
  unfold Dg.dig
  rw[Nat.div_eq_of_lt (Nat.lt_of_lt_of_le h (Nat.pow_le_pow_right (by decide) (by omega)))]
structure MU (A:Alg) (K:SK) (r:Rt) (k:Int):Prop where
 o1:A.cmp .leq 0 k=true
 o2:A.cmp .lss k 32=true
 no:A.ite (A.cmp .neq (A.dig r.N.d k) 0) true (A.cmp .neq (A.dig r.D.d k) 0)=true→0=K.tyN r∧0=K.tyD r∧false=K.tyOK r
 nx:A.ite (A.cmp .neq (A.dig r.N.d k) 0) true (A.cmp .neq (A.dig r.D.d k) 0)=false→TyI r (k+1)
 ad:A.bin .add .i64 k 1=k+1
 ms:(32 - (k+1)).toNat < (32 - k).toNat
theorem Pg {r:Rt} (h:tyB r=false):0=cA.tyN r∧0=cA.tyD r∧false=cA.tyOK r:=by
 have e1:cA.tyN r=0:=by show(if tyB r=true then _ else _)=_;rw[h];rfl
 have e2:cA.tyD r=0:=by show(if tyB r=true then _ else _)=_;rw[h];rfl
 exact⟨e1.symm,e2.symm,h.symm⟩
theorem L9 {r:Rt} {k:Int} (hI:TyI r k) (A:Alg) (hA:A=aA) (K:SK) (hK:K=cA) (hb:A.cmp .lss k 32=true):MU A K r k:=by
 subst hA hK
 have hb:k < 32:=of_decide_eq_true hb
 obtain⟨k0,k1,hz⟩:=hI
 have hdig: ∀ d:Dg,aA.dig d k=((d.dig k.toNat:Nat):Int):=fun d=>rfl
 have hc: ∀ d:Dg,aA.cmp .neq (aA.dig d k) 0=decide (d.dig k.toNat≠0):=fun d=>by
  show(((d.dig k.toNat:Nat):Int) != 0)=_
  by_cases h:d.dig k.toNat=0
  ·rw[h];rfl
  ·rw[decide_eq_true h,bne_iff_ne];omega
 have nz: ∀ d:Dg,d.dig k.toNat≠0→ ¬ d.n < 2 ^ 31:=fun d h h'=>h ((oF d).2 (Nat.lt_trans h' (by decide)) _ (by omega) (by omega))
 exact {
  o1:=bJ _ rfl _ _ (by omega)
  o2:=bH _ rfl _ _ hb
  no:=fun h=>by
   rw[hc,hc] at h
   refine Pg ?_
   unfold tyB
   have h:(if decide (r.N.d.dig k.toNat≠0)=true then true else decide (r.D.d.dig k.toNat≠0))=true:=h
   split at h
   ·rename_i h1
    rw[decide_eq_false (nz _ (of_decide_eq_true h1))];rfl
   ·rw[decide_eq_false (nz _ (of_decide_eq_true h))]
    cases decide (r.N.d.n < 2 ^ 31) <;> rfl
  nx:=fun h=>by
   rw[hc,hc] at h
   have h:(if decide (r.N.d.dig k.toNat≠0)=true then true else decide (r.D.d.dig k.toNat≠0))=false:=h
   refine⟨by omega,by omega,fun i i1 i2=>?_⟩
   by_cases hi:i=k.toNat
   ·subst hi
    split at h
    ·cases h
    ·rename_i h1
     rw[decide_eq_true_eq,Decidable.not_not] at h1
     have:=of_decide_eq_false h
     exact⟨h1,Decidable.not_not.1 this⟩
   ·exact hz i i1 (by omega)
  ad:=by show aD .add .i64 k 1=k+1;simp only[aD,IntKind.wrap_i64];omega
  ms:=by omega }
def tyC (A:Alg) (F:SF) (r:Rt):Bool:=A.ite (A.ite (A.ite (A.ite (A.ite (A.cmp .geq (A.wrap .i64 (A.dig r.N.d 0)) 2147483648) true (A.cmp .geq (A.wrap .i64 (A.dig r.D.d 0)) 2147483648)) true (A.cmp .eql (A.wrap .i64 (A.dig r.D.d 0)) 0)) true r.D.neg) true (A.ite r.N.neg (A.cmp .eql (A.wrap .i64 (A.dig r.N.d 0)) 0) false)) true (A.cmp .neq (F.com (A.wrap .i64 (A.dig r.N.d 0)) (A.wrap .i64 (A.dig r.D.d 0))) 1)
structure PC (A:Alg) (F:SF) (K:SK) (r:Rt):Prop where
 o1:K.b63 (A.wrap .i64 (A.dig r.N.d 0))=true
 o2:K.b63 (A.wrap .i64 (A.dig r.D.d 0))=true
 no:tyC A F r=true→0=K.tyN r∧0=K.tyD r∧false=K.tyOK r
 e1:tyC A F r=false→r.N.neg=true→A.bin .sub .i64 0 (A.wrap .i64 (A.dig r.N.d 0))=K.tyN r
 e0:tyC A F r=false→r.N.neg=false→A.wrap .i64 (A.dig r.N.d 0)=K.tyN r
 d:tyC A F r=false→A.wrap .i64 (A.dig r.D.d 0)=K.tyD r
 ok:tyC A F r=false→true=K.tyOK r
theorem EV {r:Rt} (h1:r.N.d.n < 2 ^ 32) (h2:r.D.d.n < 2 ^ 32):tyC aA aO r= !tyB r:=by
 have e: ∀ d:Dg,d.n < 2 ^ 32→aA.wrap .i64 (aA.dig d 0)=((d.n:Nat):Int):=fun d h=>by
  have hd:d.dig 0=d.n:=by
   unfold Dg.dig
   simp only[Nat.mul_zero,Nat.pow_zero,Nat.div_one]
   exact Nat.mod_eq_of_lt h
  show IntKind.i64.wrap ((d.dig (0:Int).toNat:Nat):Int)=_
  rw[show(0:Int).toNat=0 from rfl,hd,IntKind.wrap_i64]
  omega
 unfold tyC
 rw[e _ h1,e _ h2]
 show(if(if(if(if(if decide (((r.N.d.n:Nat):Int) ≥ 2147483648)=true then true else decide (((r.D.d.n:Nat):Int) ≥ 2147483648))=true then true else(((r.D.d.n:Nat):Int) == 0))=true then true else r.D.neg)=true then true else(if r.N.neg=true then(((r.N.d.n:Nat):Int) == 0) else false))=true then true else(((Nat.gcd ((r.N.d.n:Nat):Int).natAbs ((r.D.d.n:Nat):Int).natAbs:Nat):Int) != 1))= !tyB r
 have g1:decide (((r.N.d.n:Nat):Int) ≥ 2147483648)= !decide (r.N.d.n < 2 ^ 31):=by
  by_cases h:r.N.d.n < 2 ^ 31
  ·rw[decide_eq_true h,decide_eq_false (by omega)];rfl
  ·rw[decide_eq_false h,decide_eq_true (by omega)];rfl
 have g2:decide (((r.D.d.n:Nat):Int) ≥ 2147483648)= !decide (r.D.d.n < 2 ^ 31):=by
  by_cases h:r.D.d.n < 2 ^ 31
  ·rw[decide_eq_true h,decide_eq_false (by omega)];rfl
  ·rw[decide_eq_false h,decide_eq_true (by omega)];rfl
 have g3:(((r.D.d.n:Nat):Int) == 0)= !decide (r.D.d.n≠0):=by
  by_cases h:r.D.d.n=0
  ·rw[h];rfl
  ·rw[decide_eq_true h];show(((r.D.d.n:Nat):Int) == 0)=false;rw[beq_eq_false_iff_ne];omega
 have g4:(((r.N.d.n:Nat):Int) == 0)= !decide (r.N.d.n≠0):=by
  by_cases h:r.N.d.n=0
  ·rw[h];rfl
  ·rw[decide_eq_true h];show(((r.N.d.n:Nat):Int) == 0)=false;rw[beq_eq_false_iff_ne];omega
 have g5:(((Nat.gcd ((r.N.d.n:Nat):Int).natAbs ((r.D.d.n:Nat):Int).natAbs:Nat):Int) != 1)= !decide (Int.gcd (aK r.N) (aK r.D)=1):=by
  have:Int.gcd (aK r.N) (aK r.D)=Nat.gcd r.N.d.n r.D.d.n:=by unfold Int.gcd;rw[bF,bF]
  rw[this,Int.natAbs_natCast,Int.natAbs_natCast]
  by_cases h:Nat.gcd r.N.d.n r.D.d.n=1
  ·rw[h];rfl
  ·rw[decide_eq_false h];show(((Nat.gcd r.N.d.n r.D.d.n:Nat):Int) != 1)=true;rw[bne_iff_ne];omega
 rw[g1,g2,g3,g4,g5]
 unfold tyB Bj gE
 have gp:decide (0 < aK r.D)=(!r.D.neg&&decide (r.D.d.n≠0)):=by
  unfold aK
  cases r.D.neg
  ·show decide (0 < ((r.D.d.n:Nat):Int))=(true&&decide (r.D.d.n≠0))
   rw[Bool.true_and,decide_eq_decide];omega
  ·show decide (0 < -((r.D.d.n:Nat):Int))=(false&&_)
   rw[Bool.false_and];exact decide_eq_false (by omega)
 rw[gp]
 cases decide (r.N.d.n < 2 ^ 31) <;> cases decide (r.D.d.n < 2 ^ 31) <;> cases decide (r.D.d.n≠0) <;> cases decide (r.N.d.n≠0) <;> cases r.N.neg <;> cases r.D.neg <;> cases decide (Int.gcd (aK r.N) (aK r.D)=1) <;> rfl
theorem Pf {r:Rt} {k:Int} (hI:TyI r k) (A:Alg) (hA:A=aA) (F:SF) (hF:F=aO) (K:SK) (hK:K=cA) (hk:A.cmp .lss k 32=false):PC A F K r:=by
 subst hA hF hK
 have hk: ¬ k < 32:=of_decide_eq_false hk
 obtain⟨k0,k1,hz⟩:=hI
 have h1:r.N.d.n < 2 ^ 32:=(oF _).1 fun i i1 i2=>(hz i i1 (by omega)).1
 have h2:r.D.d.n < 2 ^ 32:=(oF _).1 fun i i1 i2=>(hz i i1 (by omega)).2
 have e: ∀ d:Dg,d.n < 2 ^ 32→aA.wrap .i64 (aA.dig d 0)=((d.n:Nat):Int):=fun d h=>by
  have hd:d.dig 0=d.n:=by
   unfold Dg.dig
   simp only[Nat.mul_zero,Nat.pow_zero,Nat.div_one]
   exact Nat.mod_eq_of_lt h
  show IntKind.i64.wrap ((d.dig (0:Int).toNat:Nat):Int)=_
  rw[show(0:Int).toNat=0 from rfl,hd,IntKind.wrap_i64]
  omega
 have hv:tyC aA aO r=false→cA.tyN r=aK r.N∧cA.tyD r=aK r.D∧tyB r=true∧r.D.neg=false:=fun h=>by
  rw[EV h1 h2,Bool.not_eq_false'] at h
  obtain⟨s,n,d⟩:=BU h
  refine⟨n,d,h,?_⟩
  have hp:=s.is.p
  cases hn:r.D.neg
  ·rfl
  ·unfold aK at hp
   rw[hn] at hp
   have hp:0 < -((r.D.d.n:Nat):Int):=hp
   omega
 refine⟨by rw[e _ h1,lW];omega,by rw[e _ h2,lW];omega,fun h=>?_,fun h hn=>?_,fun h hn=>?_,fun h=>?_,fun h=>(hv h).2.2.1.symm⟩
 ·rw[EV h1 h2,Bool.not_eq_true'] at h
  exact Pg h
 ·rw[(hv h).1,e _ h1]
  unfold aK
  rw[hn]
  show aD .sub .i64 0 _= -((r.N.d.n:Nat):Int)
  simp only[aD,IntKind.wrap_i64];omega
 ·rw[(hv h).1,e _ h1]
  unfold aK
  rw[hn];rfl
 ·rw[(hv h).2.1,e _ h2]
  unfold aK
  rw[(hv h).2.2.2];rfl
theorem Ac:aJ Tryz.prog 140 (aC [.v] aA (FH cA)):=by
 refine aH (un:=⟨false,some [1,2,3,4,5,6,7,9,25,65,68]⟩) tok LN aL (fn:=Tryz.f140) ?_
 intro w Wr args bs r hg ho hWr A L k hA hL hk
 obtain⟨F,hF⟩:=exE aO
 obtain⟨H,hH⟩:=exE bD
 obtain⟨K,hK⟩:=exE cA
 obtain⟨M,hM⟩:=exE aZ
 obtain⟨S,hS⟩:=exE aV
 obtain⟨V,hV⟩:=exE aS
 obtain⟨X,hX⟩:=exE bR
 try rw[← hF]
 try rw[← hH]
 try rw[← hK]
 try rw[← hM]
 try rw[← hS]
 try rw[← hV]
 try rw[← hX]
 try rw[← hA]
 unfold FH at hg
 split at hg <;> cases hg
 rename_i r
 have i0:TyI r 1:=⟨Int.le_refl 1,by decide,fun i h1 h2=>by simp at h2;omega⟩
 cbv
 refine hL _ _ _ (aQ (un:=⟨false,some [1,2,3,4,5,6,7,9,25,65,68]⟩) tok LN aL (fun k:Int=>⟨[(5,⟨[], .c (.s (.int .i64 k))⟩),(4,⟨[], .c (.s (.tt false))⟩),(3,⟨[], .c (.s (.lit .i64 0))⟩),(2,⟨[], .c (.s (.lit .i64 0))⟩),(1,⟨[], .c (.s (.hp 0 0))⟩)],[(0, .fix true [.R r])],1⟩)
  (fun k=>TyI r k) (fun k=>(32 - k).toNat) 1 i0 ?_ (fun _ i hi=>by have:=hWr i hi;simp at this) ?_)
 ·exact⟨⟨⟨rfl,rfl,fun _=>rfl⟩,⟨rfl,rfl,fun _=>rfl⟩,⟨rfl,rfl,fun _=>rfl⟩,⟨rfl,rfl,fun _=>rfl⟩,⟨rfl,rfl,fun _=>rfl⟩,trivial⟩,⟨aF rfl,trivial⟩,rfl,rfl⟩
 clear i0
 rintro k hI A2 L2 k2 hA2 hL2 hnext hexit hret
 have st:=fun hb:A2.cmp .lss k 32=true=>L9 hI A2 hA2 K hK hb
 have en:=fun hb:A2.cmp .lss k 32=false=>Pf hI A hA F hF K hK (by rw[hA, ← hA2];exact hb)
 clear hI
 rw[← hA2, ← hS, ← hV, ← hX, ← hM, ← hF, ← hH, ← hK]
 cbv
 repeat' with_reducible first | (intro hb;cbv) | refine UM ?_ ?_
 all_goals first | exact(st hb).o1 | exact(st hb).o2 | exact ajW hA2 (st hb).o1 | exact ajW hA2 (st hb).o2 | skip
 ·rename_i hb0
  have e:=(st hb0).no hb
  apply hret
  clear hexit hnext hret st en
  cbv
  refine hk _ _ (bE.pure rfl fun ρ=>?_)
  subst hK
  exact Ih e.1 e.2.1 e.2.2
 ·rename_i hb0
  refine hnext _ (k+1) ((st hb0).nx hb) (st hb0).ms ?_
  have ead:=(st hb0).ad
  subst hA2
  exact⟨⟨⟨rfl,rfl,leI ead⟩,⟨rfl,rfl,fun _=>rfl⟩,⟨rfl,rfl,fun _=>rfl⟩,⟨rfl,rfl,fun _=>rfl⟩,⟨rfl,rfl,fun _=>rfl⟩,trivial⟩,⟨aF rfl,trivial⟩,rfl,rfl⟩
 ·apply hexit
  have em:=en hb
  clear hexit hnext hret st en hb
  cbv
  repeat' with_reducible first | (intro hb;cbv) | refine UM ?_ ?_
  all_goals first | exact ajW hA em.o1 | exact ajW hA em.o2 | skip
  ·have e:=em.no hb
   refine hk _ _ (bE.pure rfl fun ρ=>?_)
   subst hK
   exact Ih e.1 e.2.1 e.2.2
  ·rename_i h0
   have e1:=em.e1 h0 hb
   have e2:=em.d h0
   have e3:=em.ok h0
   refine hk _ _ (bE.pure rfl fun ρ=>?_)
   subst hK
   exact Ig e1 e2 e3
  ·rename_i h0
   have e1:=em.e0 h0 hb
   have e2:=em.d h0
   have e3:=em.ok h0
   refine hk _ _ (bE.pure rfl fun ρ=>?_)
   subst hK
   exact Ig e1 e2 e3
def tT7 (A:Alg) (S:SW) (V:SV) (X:SX) (M:SM) (F:SF) (H:SH) (K:SK):List (Nat×bU):=(140,aC [.v] A (FH K)) :: ((tT6 A S V X M F H K))
theorem Rc:COK Tryz.prog (aN (tT7 aA aV aS bR aZ aO bD cA)):=aB Ac (LN)
def oD (A:Alg) (K:SK):List CV→List Blk→Option LR
 | [.g [.R a], .g [.R b]],[]=>some ⟨[], .t [.s (.int .i64 (K.tyN a)), .s (.int .i64 (K.tyD a)), .s (.int .i64 (K.tyN b)), .s (.int .i64 (K.tyD b)), .s (.bool (A.ite (K.tyOK a) (K.tyOK b) false))],[]⟩
 | _,_=>none
theorem lE:aJ Tryz.prog 94 (aC [.v, .v] aA (oD aA cA)):=by
 refine aH (un:=⟨false,some [2,3,4,5,6,7,8,9,10,11,12,13,14]⟩) tok Rc aL (fn:=Tryz.f94) ?_
 intro w Wr args bs r hg ho hWr A L k hA hL hk
 obtain⟨F,hF⟩:=exE aO
 obtain⟨H,hH⟩:=exE bD
 obtain⟨K,hK⟩:=exE cA
 obtain⟨M,hM⟩:=exE aZ
 obtain⟨S,hS⟩:=exE aV
 obtain⟨V,hV⟩:=exE aS
 obtain⟨X,hX⟩:=exE bR
 try rw[← hF]
 try rw[← hH]
 try rw[← hK]
 try rw[← hM]
 try rw[← hS]
 try rw[← hV]
 try rw[← hX]
 try rw[← hA]
 unfold oD at hg
 split at hg <;> cases hg
 rename_i a b
 cbv
 refine hk _ _ (bE.pure rfl fun ρ=>?_)
 subst hA hK
 rfl
theorem QJ (r:Rt) (A:Alg) (hA:A=aA) (M:SM) (hM:M=aZ) (F:SF) (hF:F=aO) :
  (A.cmp .eql (A.len (M.of r.N)) 0=true→0=F.sign r)∧(A.cmp .eql (A.len (M.of r.N)) 0=false→(r.N.neg=true→ -1=F.sign r)∧(r.N.neg=false→1=F.sign r)):=by
 have ez:=(mfs A hA bR rfl M hM).ez r.N
 subst hA hM hF
 have ha:=bF r.N
 have hs:aO.sign r=sgn (aK r.N) 0:=rfl
 constructor
 ·intro h
  rw[ez,decide_eq_true_eq] at h
  have:aK r.N=0:=by omega
  rw[hs,this];rfl
 ·intro h
  rw[ez,decide_eq_false_iff_not] at h
  constructor
  ·intro hn
   have:aK r.N= -(r.N.d.n:Int):=by unfold aK;rw[hn];rfl
   rw[hs]
   unfold sgn
   rw[if_pos (by omega)]
  ·intro hn
   have:aK r.N=(r.N.d.n:Int):=by unfold aK;rw[hn];rfl
   rw[hs]
   unfold sgn
   rw[if_neg (by omega),if_pos (by omega)]
def tI1 (A:Alg) (M:SM):List (Nat×bU):=(61,bV [.v] A (HQ M)) :: ([])
theorem QR:COK Tryz.prog (aN (tI1 aA aZ)):=aB sZ (bC)
theorem nI:aJ Tryz.prog 26 (aC [.v] aA (lQ aO)):=by
 refine aH (un:=⟨false,some [1,2,3,9]⟩) tok QR aL (fn:=Tryz.f26) ?_
 intro w Wr args bs r hg ho hWr A L k hA hL hk
 obtain⟨F,hF⟩:=exE aO
 obtain⟨M,hM⟩:=exE aZ
 try rw[← hF]
 try rw[← hM]
 try rw[← hA]
 unfold lQ at hg
 split at hg <;> cases hg
 rename_i r
 have sf:=QJ r A hA M hM F hF
 cbv
 repeat' with_reducible first | (intro hb;cbv) | refine UM ?_ ?_
 ·have e:=sf.1 hb
  refine hk _ _ (bE.pure rfl fun ρ=>?_)
  subst hF
  exact Ak e
 ·rename_i h0
  have e:=(sf.2 h0).1 hb
  refine hk _ _ (bE.pure rfl fun ρ=>?_)
  subst hF
  exact Ak e
 ·rename_i h0
  have e:=(sf.2 h0).2 hb
  refine hk _ _ (bE.pure rfl fun ρ=>?_)
  subst hF
  exact Ak e
def isC (A:Alg) (S:SW) (r:Rt):Bool:=A.ite (A.ite (A.ite (S.isW r.N) (S.isW r.D) false) (A.not r.D.neg) false) (A.cmp .gtr (S.bits r.D) 0) false
structure Sn (A:Alg) (S:SW) (M:SM) (F:SF) (K:SK) (r:Rt):Prop where
 t:K.tyOK r=true→true=F.isR r
 o1:M.ok (M.of r.N)=true
 o2:M.ok (M.of r.D)=true
 o3:M.ok (M.gcd (M.of r.N) (M.of r.D))=true
 o4:M.ok [1]=true
 y:isC A S r=true→A.ite true (A.cmp .eql (M.cmp (M.gcd (M.of r.N) (M.of r.D)) [1]) 0) false=F.isR r
 n:isC A S r=false→false=F.isR r
theorem P8 (r:Rt) (A:Alg) (hA:A=aA) (S:SW) (hS:S=aV) (M:SM) (hM:M=aZ) (F:SF) (hF:F=aO) (K:SK) (hK:K=cA):Sn A S M F K r:=by
 have mf:=mfs A hA bR rfl M hM
 subst hA hS hM hF hK
 have hb0:decide (cS r.D > 0)=decide (r.D.d.n≠0):=by
  have:(cS r.D == 0)=decide (r.D.d.n=0):=sW r.D.d.n
  have hnn:0≤cS r.D:=Int.natCast_nonneg _
  by_cases h:r.D.d.n=0
  ·rw[h] at this ⊢
   rw[show decide ((0:Nat)=0)=true from rfl,beq_iff_eq] at this
   rw[decide_eq_false (by omega),decide_eq_false (by omega)]
  ·rw[decide_eq_false h,beq_eq_false_iff_ne] at this
   rw[decide_eq_true (by omega),decide_eq_true h]
 have hc:isC aA aV r=(gE r.N&&(gE r.D&&decide (0 < aK r.D))):=by
  unfold isC
  show(if(if(if gE r.N=true then gE r.D else false)=true then !r.D.neg else false)=true then decide (cS r.D > 0) else false)=_
  rw[hb0]
  have gp:decide (0 < aK r.D)=(!r.D.neg&&decide (r.D.d.n≠0)):=by
   unfold aK
   cases r.D.neg
   ·show decide (0 < ((r.D.d.n:Nat):Int))=(true&&decide (r.D.d.n≠0))
    rw[Bool.true_and,decide_eq_decide];omega
   ·show decide (0 < -((r.D.d.n:Nat):Int))=(false&&_)
    rw[Bool.false_and];exact decide_eq_false (by omega)
  rw[gp]
  cases gE r.N <;> cases gE r.D <;> cases r.D.neg <;> cases decide (r.D.d.n≠0) <;> rfl
 have he:aO.isR r=(gE r.N&&(gE r.D&&(decide (0 < aK r.D)&&decide (Int.gcd (aK r.N) (aK r.D)=1)))):=rfl
 refine⟨fun h=>?_,mf.of _,mf.of _,mf.gcd _ _,by decide +kernel,fun h=>?_,fun h=>?_⟩
 ·have h:tyB r=true:=h
  exact(lC.2 (BU h).1.is).symm
 ·rw[hc] at h
  simp only[Bool.and_eq_true] at h
  rw[he,h.1,h.2.1,h.2.2]
  show(sgn (aM (bS (Nat.gcd (aM (bS r.N.d.n)) (aM (bS r.D.d.n))))) (aM [1]) == 0)=decide (Int.gcd (aK r.N) (aK r.D)=1)
  rw[bL,bL,bL]
  have:Int.gcd (aK r.N) (aK r.D)=Nat.gcd r.N.d.n r.D.d.n:=by unfold Int.gcd;rw[bF,bF]
  rw[this]
  have h1:((aM [1]:Nat):Int)=1:=rfl
  rw[h1]
  unfold sgn
  by_cases hg:Nat.gcd r.N.d.n r.D.d.n=1
  ·rw[hg];rfl
  ·rw[decide_eq_false hg]
   split
   ·rfl
   ·split
    ·rfl
    ·omega
 ·rw[hc] at h
  rw[he]
  revert h
  cases gE r.N <;> cases gE r.D <;> cases decide (0 < aK r.D) <;> intro h <;> first | rfl | cases h
def tI2 (A:Alg) (S:SW) (M:SM) (F:SF) (K:SK):List (Nat×bU):=(140,aC [.v] A (FH K)) :: (148,aC [.v] A (gIs S)) :: (105,aC [.v] A (vY S)) :: (61,bV [.v] A (HQ M)) :: (145,bV [.s (.int .u32), .s (.int .u32)] A (FF A M)) :: (143,aC [.s (.int .u32), .s (.int .u32)] A (FE A M)) :: ([])
theorem QS:COK Tryz.prog (aN (tI2 aA aV aZ aO cA)):=aB Ac (aB HX (aB rB (aB sZ (aB DL (aB DJ (bC))))))
theorem KP:aJ Tryz.prog 106 (aC [.v] aA (Ml aO)):=by
 refine aH (un:=⟨false,some [1000033,1,2,5,12]⟩) tok QS aL (fn:=Tryz.f106) ?_
 intro w Wr args bs r hg ho hWr A L k hA hL hk
 obtain⟨F,hF⟩:=exE aO
 obtain⟨K,hK⟩:=exE cA
 obtain⟨M,hM⟩:=exE aZ
 obtain⟨S,hS⟩:=exE aV
 try rw[← hF]
 try rw[← hK]
 try rw[← hM]
 try rw[← hS]
 try rw[← hA]
 unfold Ml at hg
 split at hg <;> cases hg
 rename_i r
 have sf:=P8 r A hA S hS M hM F hF K hK
 cbv
 repeat' with_reducible first | (intro hb;cbv) | refine UM ?_ ?_
 ·have e:=sf.t hb
  refine hk _ _ (bE.pure rfl fun ρ=>?_)
  subst hF
  exact BH e
 ·have b1: ∀ b c,b=c→A.beq b c=true:=fun b c h=>by subst hA h;show(b == b)=true;cases b <;> rfl
  refine IL (isC A S r) (fun hc=>Or.inl ?_) (fun hc=>Or.inr ?_)
  ·repeat' with_reducible first | (intro hb;cbv) | refine UM ?_ ?_
   all_goals first | exact b1 _ _ hc | exact sf.o1 | exact sf.o2 | exact sf.o3 | exact sf.o4 | skip
   refine hk _ _ (bE.pure rfl fun ρ=>?_)
   have e:=sf.y hc
   subst hA hF
   exact yQ e
  ·repeat' with_reducible first | (intro hb;cbv) | refine UM ?_ ?_
   all_goals first | exact b1 _ _ hc | skip
   refine hk _ _ (bE.pure rfl fun ρ=>?_)
   have e:=sf.n hc
   subst hA hF
   exact BH e
section
variable {ρ:Rho} {f:Nat→Nat}
theorem rR {k:IntKind} {a c:Int} {b d:Bool} (h1:a=c) (h2:b=d):(XV.t [.s (.lit k a), .s (.tt b)]).den ρ=((XV.t [.s (.int k c), .s (.bool d)]).ren f).den ρ:=by subst h1 h2;rfl
end
def tI3 (A:Alg) (S:SW) (F:SF):List (Nat×bU):=(105,aC [.v] A (vY S)) :: (106,aC [.v] A (Ml F)) :: ([])
theorem QT:COK Tryz.prog (aN (tI3 aA aV aO)):=aB rB (aB KP (bC))
theorem Ab:aJ Tryz.prog 65 (aC [.v, .v] aA (qN aO)):=by
 refine aH (un:=⟨false,some [1,2,4]⟩) tok QT aL (fn:=Tryz.f65) ?_
 intro w Wr args bs r hg ho hWr A L k hA hL hk
 obtain⟨F,hF⟩:=exE aO
 obtain⟨S,hS⟩:=exE aV
 try rw[← hF]
 try rw[← hS]
 try rw[← hA]
 unfold qN at hg
 split at hg <;> cases hg
 rename_i r n
 have f:A.ite (A.ite (A.cmp .leq (S.bits r.N) n) (A.cmp .leq (S.bits r.D) n) false) (F.isR r) false=F.safe r n:=by
  subst hA hS hF
  show(if(if decide (cS r.N≤n)=true then decide (cS r.D≤n) else false)=true then Bj r else false)=cQ r n
  unfold cQ
  cases decide (cS r.N≤n) <;> cases decide (cS r.D≤n) <;> rfl
 cbv
 refine hk _ _ (bE.pure rfl fun ρ=>?_)
 subst hF
 exact yQ f
def Bf (F:SF):List CV→List Blk→Option LR
 | [.g [.R a], .g [.R b]],[]=>some ⟨[], .c (.s (.bool (F.two a b))),[]⟩
 | _,_=>none
def tI4 (A:Alg) (F:SF):List (Nat×bU):=(65,aC [.v, .v] A (qN F)) :: ([])
theorem QU:COK Tryz.prog (aN (tI4 aA aO)):=aB Ab (bC)
theorem u9:aJ Tryz.prog 96 (aC [.v, .v] aA (Bf aO)):=by
 refine aH (un:=⟨false,some [2,3,4]⟩) tok QU aL (fn:=Tryz.f96) ?_
 intro w Wr args bs r hg ho hWr A L k hA hL hk
 obtain⟨F,hF⟩:=exE aO
 try rw[← hF]
 try rw[← hA]
 unfold Bf at hg
 split at hg <;> cases hg
 rename_i a b
 have f:A.ite (F.safe a 500) (F.safe b 500) false=F.two a b:=by
  subst hA hF
  show(if cQ a 500=true then cQ b 500 else false)=(cQ a 500&&cQ b 500)
  cases cQ a 500 <;> rfl
 cbv
 refine hk _ _ (bE.pure rfl fun ρ=>?_)
 subst hF
 exact yQ f
structure RcF (A:Alg) (S:SW) (V:SV) (F:SF) (K:SK) (a b:Rt):Prop where
 s:A.ite (K.tyOK a) (K.tyOK b) false=true→true=F.two a b
 lt:A.ite (K.tyOK a) (K.tyOK b) false=true→A.cmp .lss (A.bin .mul .i64 (K.tyN a) (K.tyD b)) (A.bin .mul .i64 (K.tyN b) (K.tyD a))=true→ -1=F.cmp a b
 gt:A.ite (K.tyOK a) (K.tyOK b) false=true→A.cmp .lss (A.bin .mul .i64 (K.tyN a) (K.tyD b)) (A.bin .mul .i64 (K.tyN b) (K.tyD a))=false→A.cmp .gtr (A.bin .mul .i64 (K.tyN a) (K.tyD b)) (A.bin .mul .i64 (K.tyN b) (K.tyD a))=true→1=F.cmp a b
 eq:A.ite (K.tyOK a) (K.tyOK b) false=true→A.cmp .lss (A.bin .mul .i64 (K.tyN a) (K.tyD b)) (A.bin .mul .i64 (K.tyN b) (K.tyD a))=false→A.cmp .gtr (A.bin .mul .i64 (K.tyN a) (K.tyD b)) (A.bin .mul .i64 (K.tyN b) (K.tyD a))=false→0=F.cmp a b
 no:A.not (F.two a b)=true→0=F.cmp a b∧false=F.two a b
 ok:A.not (F.two a b)=false→S.cmp (V.mul a.N b.D) (V.mul b.N a.D)=F.cmp a b∧true=F.two a b
theorem tX {a b:Rt} (h:dK a b=true):aO.cmp a b=cZ (bI a) (bI b):=if_pos h
theorem S7 (a b:Rt) (A:Alg) (hA:A=aA) (S:SW) (hS:S=aV) (V:SV) (hV:V=aS) (F:SF) (hF:F=aO) (K:SK) (hK:K=cA):RcF A S V F K a b:=by
 subst hA hS hV hF hK
 have sm:aA.ite (cA.tyOK a) (cA.tyOK b) false=true→dK a b=true∧pW aA a b:=fun h=>by
  have h:(if tyB a=true then tyB b else false)=true:=h
  cases ha:tyB a
  ·rw[ha] at h;cases h
  ·rw[ha] at h
   exact⟨AB ha h,vG ha h _ rfl⟩
 refine⟨fun h=>(sm h).1.symm,fun h h1=>?_,fun h h1 h2=>?_,fun h h1 h2=>?_,fun h=>?_,fun h=>?_⟩
 ·obtain⟨t,k⟩:=sm h
  rw[k.lt,decide_eq_true_eq] at h1
  rw[tX t];unfold cZ;rw[if_pos h1]
 ·obtain⟨t,k⟩:=sm h
  rw[k.lt,decide_eq_false_iff_not] at h1
  rw[k.gt,decide_eq_true_eq] at h2
  rw[tX t];unfold cZ;rw[if_neg h1,if_pos h2]
 ·obtain⟨t,k⟩:=sm h
  rw[k.lt,decide_eq_false_iff_not] at h1
  rw[k.gt,decide_eq_false_iff_not] at h2
  rw[tX t];unfold cZ;rw[if_neg h1,if_neg h2]
 ·have h:(!dK a b)=true:=h
  rw[Bool.not_eq_true'] at h
  refine⟨?_,h.symm⟩
  show 0=if dK a b=true then _ else 0
  rw[h];rfl
 ·have h:(!dK a b)=false:=h
  rw[Bool.not_eq_false'] at h
  refine⟨?_,h.symm⟩
  rw[tX h]
  exact(IH h).cmp
def tI5 (A:Alg) (S:SW) (V:SV) (F:SF) (K:SK):List (Nat×bU):=(94,aC [.v, .v] A (oD A K)) :: (96,aC [.v, .v] A (Bf F)) :: (103,aC [.v, .v] A (JG V)) :: (104,aC [.v, .v] A (yB S)) :: ([])
theorem QV:COK Tryz.prog (aN (tI5 aA aV aS aO cA)):=aB lE (aB u9 (aB DM (aB z7 (bC))))
theorem Gs:aJ Tryz.prog 64 (aC [.v, .v] aA (A1 aO)):=by
 refine aH (un:=⟨false,some [2,3,4,5,6,7,8,9,10,11,12,13,14,24,25,33,44]⟩) tok QV aL (fn:=Tryz.f64) ?_
 intro w Wr args bs r hg ho hWr A L k hA hL hk
 obtain⟨F,hF⟩:=exE aO
 obtain⟨K,hK⟩:=exE cA
 obtain⟨S,hS⟩:=exE aV
 obtain⟨V,hV⟩:=exE aS
 try rw[← hF]
 try rw[← hK]
 try rw[← hS]
 try rw[← hV]
 try rw[← hA]
 unfold A1 at hg
 split at hg <;> cases hg
 rename_i a b
 have rc:=S7 a b A hA S hS V hV F hF K hK
 cbv
 repeat' with_reducible first | (intro hb;cbv) | refine UM ?_ ?_
 ·rename_i h0
  have e:=rc.lt h0 hb
  have e2:=rc.s h0
  refine hk _ _ (bE.pure rfl fun ρ=>?_)
  subst hF
  exact rR e e2
 ·rename_i h0 h1
  have e:=rc.gt h0 h1 hb
  have e2:=rc.s h0
  refine hk _ _ (bE.pure rfl fun ρ=>?_)
  subst hF
  exact rR e e2
 ·rename_i h0 h1
  have e:=rc.eq h0 h1 hb
  have e2:=rc.s h0
  refine hk _ _ (bE.pure rfl fun ρ=>?_)
  subst hF
  exact rR e e2
 ·have e:=rc.no hb
  refine hk _ _ (bE.pure rfl fun ρ=>?_)
  subst hF
  exact rR e.1 e.2
 ·have e:=rc.ok hb
  refine hk _ _ (bE.pure rfl fun ρ=>?_)
  subst hF hS hV
  exact EE e.1 e.2
theorem K6 {s:Bool} {n d:Nat} {z:Int} {q:Rat} (hz:sgd s n=z) (hd:d≠0) (hq:Rat.divInt z (d:Int)=q) (hf:Fg q) :
  (⟨bR.wV s (aZ.dq (bS n) (aZ.gcd (bS n) (bS d))),bR.wV false (aZ.dq (bS d) (aZ.gcd (bS n) (bS d)))⟩:Rt)=ofQ q∧aA.ite (bR.wOK (aZ.dq (bS n) (aZ.gcd (bS n) (bS d)))) (bR.wOK (aZ.dq (bS d) (aZ.gcd (bS n) (bS d)))) false=true:=by
 have ev: ∀ w:Nat,aZ.dq (bS w) (aZ.gcd (bS n) (bS d))=bS (w / Nat.gcd n d):=fun w=>by
  show bS (aM (bS w) / aM (bS (Nat.gcd (aM (bS n)) (aM (bS d)))))=_
  rw[bL,bL,bL,bL]
 have hg0:Nat.gcd n d≠0:=fun e=>hd (Nat.eq_zero_of_gcd_eq_zero_right e)
 have hg:Int.gcd (d:Int) z=Nat.gcd n d:=by
  unfold Int.gcd
  rw[← hz,oN,Int.natAbs_natCast,Nat.gcd_comm]
 have e1:sgd s (n / Nat.gcd n d)=q.num:=by
  rw[← hq,Rat.num_divInt,hg,Int.sign_eq_one_of_pos (by omega),Int.one_mul, ← hz,El _ (Nat.gcd_dvd_left ..) hg0]
 have e2:sgd false (d / Nat.gcd n d)=(q.den:Int):=by
  rw[← hq,Rat.den_divInt,if_neg (by omega),hg,Int.natAbs_natCast];rfl
 have w1:=kV e1
 have w2:=kV e2
 rw[hf.1] at w1
 rw[hf.2] at w2
 rw[ev,ev]
 constructor
 ·exact congr (congrArg Rt.mk w1.1) w2.1
 ·rw[w1.2,w2.2];rfl
theorem tH {r:Rt} (h:y6 r):aK r.D=((r.D.d.n:Nat):Int)∧r.D.d.n≠0:=by
 have hp:=h.p
 have ha:=bF r.D
 exact⟨by omega,by omega⟩
theorem Dy (w:Wd):aM (aZ.of w)=w.d.n:=bL _
theorem jR (x y:Wd):aZ.mul (aZ.of x) (aZ.of y)=bS (x.d.n*y.d.n):=by
 show bS (aM (aZ.of x)*aM (aZ.of y))=_
 rw[Dy,Dy]
theorem BW (w:Wd):w.d.n < 2 ^ 1024:=w.d.lt
theorem gU (x y:Wd):Mag (bS (x.d.n*y.d.n)):=Mag.lt (k:=2048) (by
 have:=Nat.mul_lt_mul'' (BW x) (BW y)
 rw[← Nat.pow_add] at this
 exact this) (by decide)
theorem Lh (s t:Bool) (a b:Nat):sgd (!(s == t)) (a*b)=sgd s a*sgd t b:=by cases s <;> cases t <;> simp[sgd,Int.neg_mul,Int.mul_neg]
theorem Je {a b:Rt} (h:dK a b=true):Fg (bI a+bI b):=by
 obtain⟨ha,hb⟩:=eY h
 exact((Cal.of ha).add (Cal.of hb) (by decide)).2.sm.fit (by decide)
theorem Jh {a b:Rt} (h:dK a b=true):Fg (bI a - bI b):=by
 obtain⟨ha,hb⟩:=eY h
 exact((Cal.of ha).sub (Cal.of hb) (by decide)).2.sm.fit (by decide)
theorem Jg {a b:Rt} (h:dK a b=true):Fg (bI a*bI b):=by
 obtain⟨ha,hb⟩:=eY h
 exact((Cal.of ha).mul (Cal.of hb) (by decide)).2.sm.fit (by decide)
theorem Jf {a b:Rt} (h:dK a b=true) (h0:bI b≠0):Fg (bI a / bI b):=by
 obtain⟨ha,hb⟩:=eY h
 exact((Cal.of ha).div (Cal.of hb) (by decide) h0).2.sm.fit (by decide)
def C5 (F:SF) (K:SK):List CV→List Blk→Option LR
 | [.g [.R a], .g [.R b], .s (.bool l)],[]=>some ⟨[], .t [.g [.R (K.plus l a b)], .s (.bool (F.two a b))],[]⟩
 | _,_=>none
structure Sr (A:Alg) (S:SW) (X:SX) (M:SM) (F:SF) (K:SK) (a b:Rt) (l:Bool) (S' D:List Int) (s:Bool):Prop where
 o1:M.ok S'=true
 o2:M.ok D=true
 o3:M.nz D=true
 eq:(⟨X.wV s (M.dq S' (M.gcd S' D)),X.wV false (M.dq D (M.gcd S' D))⟩:Rt)=K.plus l a b
 ok:A.ite (X.wOK (M.dq S' (M.gcd S' D))) (X.wOK (M.dq D (M.gcd S' D))) false=F.two a b
structure PlF (A:Alg) (S:SW) (X:SX) (M:SM) (F:SF) (K:SK) (a b:Rt) (l:Bool):Prop where
 s:A.ite (K.tyOK a) (K.tyOK b) false=true→pW aA a b∧true=F.two a b
 s1:A.ite (K.tyOK a) (K.tyOK b) false=true→l=true→F.made (A.bin .add .i64 (A.bin .mul .i64 (K.tyN a) (K.tyD b)) (A.bin .mul .i64 (A.bin .sub .i64 0 (K.tyN b)) (K.tyD a))) (A.bin .mul .i64 (K.tyD a) (K.tyD b))=K.plus l a b
 s0:A.ite (K.tyOK a) (K.tyOK b) false=true→l=false→F.made (A.bin .add .i64 (A.bin .mul .i64 (K.tyN a) (K.tyD b)) (A.bin .mul .i64 (K.tyN b) (K.tyD a))) (A.bin .mul .i64 (K.tyD a) (K.tyD b))=K.plus l a b
 no:A.not (F.two a b)=true→cN=K.plus l a b∧false=F.two a b
 of: ∀ w,M.ok (M.of w)=true
 mu: ∀ x y,M.ok (M.mul (M.of x) (M.of y))=true
 ok:A.not (F.two a b)=false→Sr A S X M F K a b l (M.sumM (S.below a.N) (M.mul (M.of a.N) (M.of b.D)) (A.not (A.beq (S.below b.N) l)) (M.mul (M.of b.N) (M.of a.D))) (M.mul (M.of a.D) (M.of b.D)) (M.sumS (S.below a.N) (M.mul (M.of a.N) (M.of b.D)) (A.not (A.beq (S.below b.N) l)) (M.mul (M.of b.N) (M.of a.D)))
theorem vB (l:Bool) {a b:Rt} (h:dK a b=true):cA.plus l a b=ofQ (if l then bI a - bI b else bI a+bI b):=by
 show(if l=true then aO.sub a b else aO.add a b)=_
 cases l
 ·exact atQ h _
 ·exact atQ h _
theorem S3 (a b:Rt) (l:Bool) (A:Alg) (hA:A=aA) (S:SW) (hS:S=aV) (X:SX) (hX:X=bR) (M:SM) (hM:M=aZ) (F:SF) (hF:F=aO) (K:SK) (hK:K=cA):PlF A S X M F K a b l:=by
 have mf:=mfs A hA X hX M hM
 subst hA hS hX hM hF hK
 have sm:aA.ite (cA.tyOK a) (cA.tyOK b) false=true→dK a b=true∧pW aA a b:=fun h=>by
  have h:(if tyB a=true then tyB b else false)=true:=h
  cases ha:tyB a
  ·rw[ha] at h;cases h
  ·rw[ha] at h
   exact⟨AB ha h,vG ha h _ rfl⟩
 refine⟨fun h=>⟨(sm h).2,(sm h).1.symm⟩,fun h hl=>?_,fun h hl=>?_,fun h=>?_,mf.of,mf.mul,fun h=>?_⟩
 ·rw[vB l (sm h).1,hl];exact(sm h).2.sub
 ·rw[vB l (sm h).1,hl];exact(sm h).2.add
 ·have h:(!dK a b)=true:=h
  rw[Bool.not_eq_true'] at h
  refine⟨?_,h.symm⟩
  show cN=if l=true then(if dK a b=true then _ else cN) else(if dK a b=true then _ else cN)
  rw[h];cases l <;> rfl
 ·have h:(!dK a b)=false:=h
  rw[Bool.not_eq_false'] at h
  obtain⟨ha,hb⟩:=eY h
  obtain⟨da,na⟩:=tH ha.is
  obtain⟨db,nb⟩:=tH hb.is
  have hbl:aA.not (aA.beq (aV.below b.N) l)= !(aU b.N == l):=rfl
  rw[hbl,jR,jR,jR]
  have eS: ∀ s t:Bool,aZ.sumS s (bS (a.N.d.n*b.D.d.n)) t (bS (b.N.d.n*a.D.d.n))=if s=t then s else if b.N.d.n*a.D.d.n≤a.N.d.n*b.D.d.n then s else t:=fun s t=>by
   show(if s=t then s else if aM (bS (b.N.d.n*a.D.d.n))≤aM (bS (a.N.d.n*b.D.d.n)) then s else t)=_
   rw[bL,bL]
  have eM: ∀ s t:Bool,aZ.sumM s (bS (a.N.d.n*b.D.d.n)) t (bS (b.N.d.n*a.D.d.n))=bS (if s=t then a.N.d.n*b.D.d.n+b.N.d.n*a.D.d.n else if b.N.d.n*a.D.d.n≤a.N.d.n*b.D.d.n then a.N.d.n*b.D.d.n - b.N.d.n*a.D.d.n else b.N.d.n*a.D.d.n - a.N.d.n*b.D.d.n):=fun s t=>by
   show(if s=t then bS (aM (bS (a.N.d.n*b.D.d.n))+aM (bS (b.N.d.n*a.D.d.n))) else if aM (bS (b.N.d.n*a.D.d.n))≤aM (bS (a.N.d.n*b.D.d.n)) then bS (aM (bS (a.N.d.n*b.D.d.n)) - aM (bS (b.N.d.n*a.D.d.n))) else bS (aM (bS (b.N.d.n*a.D.d.n)) - aM (bS (a.N.d.n*b.D.d.n))))=_
   rw[bL,bL]
   split
   ·rfl
   ·split <;> rfl
  have hsum: ∀ s t:Bool,sgd s (a.N.d.n*b.D.d.n)+sgd t (b.N.d.n*a.D.d.n)=sgd (aZ.sumS s (bS (a.N.d.n*b.D.d.n)) t (bS (b.N.d.n*a.D.d.n))) (if s=t then a.N.d.n*b.D.d.n+b.N.d.n*a.D.d.n else if b.N.d.n*a.D.d.n≤a.N.d.n*b.D.d.n then a.N.d.n*b.D.d.n - b.N.d.n*a.D.d.n else b.N.d.n*a.D.d.n - a.N.d.n*b.D.d.n):=fun s t=>by rw[eS];exact B7
  have hs:=hsum (aU a.N) (!(aU b.N == l))
  have p1:sgd (aU a.N) (a.N.d.n*b.D.d.n)=aK a.N*aK b.D:=by
   rw[SU a.N,db]
   cases aU a.N <;> simp[sgd,Int.neg_mul]
  have p2:sgd (!(aU b.N == l)) (b.N.d.n*a.D.d.n)=if l then -(aK b.N*aK a.D) else aK b.N*aK a.D:=by
   rw[SU b.N,da]
   cases aU b.N <;> cases l <;> simp[sgd,Int.neg_mul]
  rw[p1,p2] at hs
  have hq:Rat.divInt (aK a.N*aK b.D+if l then -(aK b.N*aK a.D) else aK b.N*aK a.D) ((a.D.d.n*b.D.d.n:Nat):Int)=if l then bI a - bI b else bI a+bI b:=by
   rw[Int.natCast_mul, ← da, ← db]
   cases l
   ·exact lG ha.is hb.is
   ·show Rat.divInt (aK a.N*aK b.D+ -(aK b.N*aK a.D)) _=bI a - bI b
    rw[← Int.sub_eq_add_neg]
    exact pQ ha.is hb.is
  have hf:Fg (if l then bI a - bI b else bI a+bI b):=by
   cases l
   ·exact Je h
   ·exact Jh h
  have hn:a.D.d.n*b.D.d.n≠0:=Nat.mul_ne_zero na nb
  obtain⟨r1,r2⟩:=K6 hs.symm hn hq hf
  rw[eM]
  refine⟨aX.2 ?_,aX.2 (gU _ _),decide_eq_true (by rw[bL];exact hn),?_,?_⟩
  ·refine Mag.lt (k:=2049) ?_ (by decide)
   have q1:=Nat.mul_lt_mul'' (BW a.N) (BW b.D)
   have q2:=Nat.mul_lt_mul'' (BW b.N) (BW a.D)
   rw[← Nat.pow_add] at q1 q2
   have e:2 ^ 2049=2 ^ (1024+1024)+2 ^ (1024+1024):=by rw[show 2049=1024+1024+1 by rfl,Nat.pow_succ,Nat.mul_two]
   rw[e]
   generalize 2 ^ (1024+1024)=P at *
   split
   ·omega
   ·split <;> omega
  ·rw[vB l h];exact r1
  ·exact r2.trans h.symm
def tI6 (A:Alg) (S:SW) (X:SX) (M:SM) (F:SF) (K:SK):List (Nat×bU):=(94,aC [.v, .v] A (oD A K)) :: (95,aC [.v, .v] A (sS A F K)) :: (96,aC [.v, .v] A (Bf F)) :: (98,aC [.v] A (mT S)) :: (61,bV [.v] A (HQ M)) :: (99,bV [.s (.int .u32), .s (.int .u32)] A (Bb A M)) :: (97,bV [.v, .s (.int .u32), .v, .s (.int .u32)] A (FG M)) :: (100,aC [.v, .s (.int .u32), .s (.int .u32)] A (Mo A X M)) :: ([])
theorem QW:COK Tryz.prog (aN (tI6 aA aV bR aZ aO cA)):=aB lE (aB nH (aB u9 (aB u6 (aB sZ (aB u5 (aB DN (aB u7 (bC))))))))
theorem Gw:aJ Tryz.prog 60 (aC [.v, .v, .v] aA (C5 aO cA)):=by
 refine aH (un:=⟨false,some [2,3,4,6,7,8,9,10,11,12,13,14,24,25,42]⟩) tok QW aL (fn:=Tryz.f60) ?_
 intro w Wr args bs r hg ho hWr A L k hA hL hk
 obtain⟨F,hF⟩:=exE aO
 obtain⟨K,hK⟩:=exE cA
 obtain⟨M,hM⟩:=exE aZ
 obtain⟨S,hS⟩:=exE aV
 obtain⟨X,hX⟩:=exE bR
 try rw[← hF]
 try rw[← hK]
 try rw[← hM]
 try rw[← hS]
 try rw[← hX]
 try rw[← hA]
 unfold C5 at hg
 split at hg <;> cases hg
 rename_i a b l
 have pl:=S3 a b l A hA S hS X hX M hM F hF K hK
 cbv
 repeat' with_reducible first | (intro hb;cbv) | refine UM ?_ ?_
 all_goals first | (with_reducible exact pl.of _) | (with_reducible exact pl.mu _ _) | (with_reducible exact(pl.ok (by assumption)).o1) | (with_reducible exact(pl.ok (by assumption)).o2) | (with_reducible exact(pl.ok (by assumption)).o3) | skip
 ·rename_i h0;have e:=(pl.s h0).1.o4;subst hA hK;exact e
 ·rename_i h0;have e:=(pl.s h0).1.o2;subst hA hK;exact e
 ·rename_i h0;have e:=(pl.s h0).1.o3;subst hA hK;exact e
 ·rename_i h0
  have e:=pl.s1 h0 hb
  have e2:=(pl.s h0).2
  refine hk _ _ (bE.pure rfl fun ρ=>?_)
  subst hF hA hK
  exact kP e e2
 ·rename_i h0;have e:=(pl.s h0).1.o1;subst hA hK;exact e
 ·rename_i h0;have e:=(pl.s h0).1.o2;subst hA hK;exact e
 ·rename_i h0;have e:=(pl.s h0).1.o3;subst hA hK;exact e
 ·rename_i h0
  have e:=pl.s0 h0 hb
  have e2:=(pl.s h0).2
  refine hk _ _ (bE.pure rfl fun ρ=>?_)
  subst hF hA hK
  exact kP e e2
 ·have e:=pl.no hb
  refine hk _ _ (bE.pure rfl fun ρ=>?_)
  subst hF hK
  exact kP e.1 e.2
 ·have e:=pl.ok hb
  refine hk _ _ (bE.pure rfl fun ρ=>?_)
  subst hA hS hX hM hF hK
  exact xA e.eq e.ok
def tI7 (A:Alg) (F:SF) (K:SK):List (Nat×bU):=(60,aC [.v, .v, .v] A (C5 F K)) :: ([])
theorem OH:COK Tryz.prog (aN (tI7 aA aO cA)):=aB Gw (bC)
theorem KL:aJ Tryz.prog 25 (aC [.v, .v] aA (A0 aO)):=by
 refine aH (un:=⟨false,some [2,3,4,5]⟩) tok OH aL (fn:=Tryz.f25) ?_
 intro w Wr args bs r hg ho hWr A L k hA hL hk
 obtain⟨F,hF⟩:=exE aO
 obtain⟨K,hK⟩:=exE cA
 try rw[← hF]
 try rw[← hK]
 try rw[← hA]
 unfold A0 at hg
 split at hg <;> cases hg
 rename_i a b
 cbv
 refine hk _ _ (bE.pure rfl fun ρ=>?_)
 subst hF hK
 exact xA rfl rfl
theorem KS:aJ Tryz.prog 92 (aC [.v, .v] aA (Be aO)):=by
 refine aH (un:=⟨false,some [2,3,4,5]⟩) tok OH aL (fn:=Tryz.f92) ?_
 intro w Wr args bs r hg ho hWr A L k hA hL hk
 obtain⟨F,hF⟩:=exE aO
 obtain⟨K,hK⟩:=exE cA
 try rw[← hF]
 try rw[← hK]
 try rw[← hA]
 unfold Be at hg
 split at hg <;> cases hg
 rename_i a b
 cbv
 refine hk _ _ (bE.pure rfl fun ρ=>?_)
 subst hF hK
 exact xA rfl rfl
structure RC (A:Alg) (X:SX) (M:SM) (r:Rt) (c:Bool) (N D:List Int) (s:Bool):Prop where
 o1:M.ok N=true
 o2:M.ok D=true
 o3:M.nz D=true
 eq:(⟨X.wV s (M.dq N (M.gcd N D)),X.wV false (M.dq D (M.gcd N D))⟩:Rt)=r
 ok:A.ite (X.wOK (M.dq N (M.gcd N D))) (X.wOK (M.dq D (M.gcd N D))) false=c
structure MuF (A:Alg) (S:SW) (X:SX) (M:SM) (F:SF) (K:SK) (a b:Rt):Prop where
 s:A.ite (K.tyOK a) (K.tyOK b) false=true→pW aA a b∧true=F.two a b∧F.made (A.bin .mul .i64 (K.tyN a) (K.tyN b)) (A.bin .mul .i64 (K.tyD a) (K.tyD b))=F.mul a b
 no:A.not (F.two a b)=true→cN=F.mul a b∧false=F.two a b
 of: ∀ w,M.ok (M.of w)=true
 mu: ∀ x y,M.ok (M.mul (M.of x) (M.of y))=true
 ok:A.not (F.two a b)=false→RC A X M (F.mul a b) (F.two a b) (M.mul (M.of a.N) (M.of b.N)) (M.mul (M.of a.D) (M.of b.D)) (A.not (A.beq (S.below a.N) (S.below b.N)))
theorem SR (a b:Rt) (A:Alg) (hA:A=aA) (S:SW) (hS:S=aV) (X:SX) (hX:X=bR) (M:SM) (hM:M=aZ) (F:SF) (hF:F=aO) (K:SK) (hK:K=cA):MuF A S X M F K a b:=by
 have mf:=mfs A hA X hX M hM
 subst hA hS hX hM hF hK
 refine⟨fun h=>?_,fun h=>?_,mf.of,mf.mul,fun h=>?_⟩
 ·have h:(if tyB a=true then tyB b else false)=true:=h
  cases ha:tyB a
  ·rw[ha] at h;cases h
  ·rw[ha] at h
   have t:=AB ha h
   have k:=vG ha h _ rfl
   exact⟨k,t.symm,k.mul.trans (atQ t _).symm⟩
 ·have h:(!dK a b)=true:=h
  rw[Bool.not_eq_true'] at h
  exact⟨HB h _,h.symm⟩
 ·have h:(!dK a b)=false:=h
  rw[Bool.not_eq_false'] at h
  obtain⟨ha,hb⟩:=eY h
  obtain⟨da,na⟩:=tH ha.is
  obtain⟨db,nb⟩:=tH hb.is
  have hbl:aA.not (aA.beq (aV.below a.N) (aV.below b.N))= !(aU a.N == aU b.N):=rfl
  rw[hbl,jR,jR]
  have hz:sgd (!(aU a.N == aU b.N)) (a.N.d.n*b.N.d.n)=aK a.N*aK b.N:=by rw[Lh, ← SU, ← SU]
  have hq:Rat.divInt (aK a.N*aK b.N) ((a.D.d.n*b.D.d.n:Nat):Int)=bI a*bI b:=by rw[Int.natCast_mul, ← da, ← db,nJ]
  obtain⟨r1,r2⟩:=K6 hz (Nat.mul_ne_zero na nb) hq (Jg h)
  exact⟨aX.2 (gU _ _),aX.2 (gU _ _),decide_eq_true (by rw[bL];exact Nat.mul_ne_zero na nb),r1.trans (atQ h _).symm,r2.trans h.symm⟩
def tI8 (A:Alg) (S:SW) (X:SX) (M:SM) (F:SF) (K:SK):List (Nat×bU):=(94,aC [.v, .v] A (oD A K)) :: (95,aC [.v, .v] A (sS A F K)) :: (96,aC [.v, .v] A (Bf F)) :: (98,aC [.v] A (mT S)) :: (61,bV [.v] A (HQ M)) :: (99,bV [.s (.int .u32), .s (.int .u32)] A (Bb A M)) :: (100,aC [.v, .s (.int .u32), .s (.int .u32)] A (Mo A X M)) :: ([])
theorem QX:COK Tryz.prog (aN (tI8 aA aV bR aZ aO cA)):=aB lE (aB nH (aB u9 (aB u6 (aB sZ (aB u5 (aB u7 (bC)))))))
theorem KQ:aJ Tryz.prog 93 (aC [.v, .v] aA (Bc aO)):=by
 refine aH (un:=⟨false,some [2,3,4,5,6,7,8,9,10,11,20,31]⟩) tok QX aL (fn:=Tryz.f93) ?_
 intro w Wr args bs r hg ho hWr A L k hA hL hk
 obtain⟨F,hF⟩:=exE aO
 obtain⟨K,hK⟩:=exE cA
 obtain⟨M,hM⟩:=exE aZ
 obtain⟨S,hS⟩:=exE aV
 obtain⟨X,hX⟩:=exE bR
 try rw[← hF]
 try rw[← hK]
 try rw[← hM]
 try rw[← hS]
 try rw[← hX]
 try rw[← hA]
 unfold Bc at hg
 split at hg <;> cases hg
 rename_i a b
 have mu:=SR a b A hA S hS X hX M hM F hF K hK
 cbv
 repeat' with_reducible first | (intro hb;cbv) | refine UM ?_ ?_
 all_goals first | (with_reducible exact mu.of _) | (with_reducible exact mu.mu _ _) | (with_reducible exact(mu.ok (by assumption)).o1) | (with_reducible exact(mu.ok (by assumption)).o2) | (with_reducible exact(mu.ok (by assumption)).o3) | skip
 ·have e:=(mu.s hb).1.o5;subst hA hK;exact e
 ·have e:=(mu.s hb).1.o2;subst hA hK;exact e
 ·have e:=(mu.s hb).1.o3;subst hA hK;exact e
 ·have e:=(mu.s hb).2
  refine hk _ _ (bE.pure rfl fun ρ=>?_)
  subst hF hA hK
  exact kP e.2 e.1
 ·have e:=mu.no hb
  refine hk _ _ (bE.pure rfl fun ρ=>?_)
  subst hF
  exact kP e.1 e.2
 ·have e:=mu.ok hb
  refine hk _ _ (bE.pure rfl fun ρ=>?_)
  subst hA hS hX hM hF hK
  exact xA e.eq e.ok
structure DiF (A:Alg) (S:SW) (X:SX) (M:SM) (F:SF) (K:SK) (a b:Rt):Prop where
 s:A.ite (A.ite (K.tyOK a) (K.tyOK b) false) (A.cmp .neq (K.tyN b) 0) false=true→pW aA a b∧true=F.divOK a b
 s1:A.ite (A.ite (K.tyOK a) (K.tyOK b) false) (A.cmp .neq (K.tyN b) 0) false=true→A.cmp .lss (K.tyN b) 0=true→K.b63 (A.bin .mul .i64 (A.bin .sub .i64 0 (K.tyN a)) (K.tyD b))=true∧K.b63 (A.bin .mul .i64 (K.tyD a) (A.bin .sub .i64 0 (K.tyN b)))=true∧A.cmp .gtr (A.bin .mul .i64 (K.tyD a) (A.bin .sub .i64 0 (K.tyN b))) 0=true∧
  F.made (A.bin .mul .i64 (A.bin .sub .i64 0 (K.tyN a)) (K.tyD b)) (A.bin .mul .i64 (K.tyD a) (A.bin .sub .i64 0 (K.tyN b)))=F.div a b
 s0:A.ite (A.ite (K.tyOK a) (K.tyOK b) false) (A.cmp .neq (K.tyN b) 0) false=true→A.cmp .lss (K.tyN b) 0=false→K.b63 (A.bin .mul .i64 (K.tyN a) (K.tyD b))=true∧K.b63 (A.bin .mul .i64 (K.tyD a) (K.tyN b))=true∧A.cmp .gtr (A.bin .mul .i64 (K.tyD a) (K.tyN b)) 0=true∧
  F.made (A.bin .mul .i64 (K.tyN a) (K.tyD b)) (A.bin .mul .i64 (K.tyD a) (K.tyN b))=F.div a b
 no:A.ite (A.not (F.two a b)) true (A.cmp .eql (F.sign b) 0)=true→cN=F.div a b∧false=F.divOK a b
 of: ∀ w,M.ok (M.of w)=true
 mu: ∀ x y,M.ok (M.mul (M.of x) (M.of y))=true
 ok:A.ite (A.not (F.two a b)) true (A.cmp .eql (F.sign b) 0)=false→RC A X M (F.div a b) (F.divOK a b) (M.mul (M.of a.N) (M.of b.D)) (M.mul (M.of a.D) (M.of b.N)) (A.not (A.beq (S.below a.N) (S.below b.N)))
theorem qC {a b:Rt} {c:Bool} (h:(dK a b&&decide (bI b≠0))=c):aO.div a b=(if c=true then ofQ (bI a / bI b) else cN)∧aO.divOK a b=c:=by
 constructor
 ·show(if(dK a b&&decide (bI b≠0))=true then _ else _)=_
  rw[h]
 ·exact h
theorem Hb {z:Int} :sgn z 0=0↔z=0:=by
 unfold sgn
 constructor
 ·intro h
  split at h
  ·omega
  ·split at h
   ·omega
   ·omega
 ·rintro rfl;rfl
theorem SD (a b:Rt) (A:Alg) (hA:A=aA) (S:SW) (hS:S=aV) (X:SX) (hX:X=bR) (M:SM) (hM:M=aZ) (F:SF) (hF:F=aO) (K:SK) (hK:K=cA):DiF A S X M F K a b:=by
 have mf:=mfs A hA X hX M hM
 subst hA hS hX hM hF hK
 have sm:aA.ite (aA.ite (cA.tyOK a) (cA.tyOK b) false) (aA.cmp .neq (cA.tyN b) 0) false=true→pW aA a b∧aA.cmp .neq (cA.tyN b) 0=true∧(dK a b&&decide (bI b≠0))=true:=fun h=>by
  have h:(if(if tyB a=true then tyB b else false)=true then aA.cmp .neq (cA.tyN b) 0 else false)=true:=h
  cases ha:tyB a
  ·rw[ha] at h;cases h
  ·cases hb:tyB b
   ·rw[ha,hb] at h;cases h
   ·rw[ha,hb] at h
    have h:aA.cmp .neq (cA.tyN b) 0=true:=h
    have k:=vG ha hb _ rfl
    have hz:=k.z
    rw[h] at hz
    exact⟨k,h,by rw[AB ha hb, ← hz];rfl⟩
 have cc:aA.ite (aA.not (aO.two a b)) true (aA.cmp .eql (aO.sign b) 0)= !(dK a b&&decide (bI b≠0)):=by
  show(if(!dK a b)=true then true else(sgn (aK b.N) 0 == 0))=_
  cases ht:dK a b
  ·rfl
  ·have hb:=(eY ht).2
   show(sgn (aK b.N) 0 == 0)= !(true&&decide (bI b≠0))
   rw[Bool.true_and]
   by_cases hz:aK b.N=0
   ·rw[hz,decide_eq_false (by simp[(fM hb.is).2 hz])];rfl
   ·rw[decide_eq_true (show bI b≠0 from fun h=>hz ((fM hb.is).1 h)),beq_eq_false_iff_ne.2 fun h=>hz (Hb.1 h)];rfl
 refine⟨fun h=>⟨(sm h).1,(qC (sm h).2.2).2.symm⟩,fun h hl=>?_,fun h hl=>?_,fun h=>?_,mf.of,mf.mul,fun h=>?_⟩
 ·obtain⟨k,h1,h2⟩:=sm h
  obtain⟨p1,p2,p3,p4⟩:=k.p2 h1 hl
  exact⟨p1,p2,p3,p4.trans (qC h2).1.symm⟩
 ·obtain⟨k,h1,h2⟩:=sm h
  obtain⟨p1,p2,p3,p4⟩:=k.p1 h1 hl
  exact⟨p1,p2,p3,p4.trans (qC h2).1.symm⟩
 ·rw[cc,Bool.not_eq_true'] at h
  obtain⟨d1,d2⟩:=qC h
  exact⟨d1.symm,d2.symm⟩
 ·rw[cc,Bool.not_eq_false'] at h
  obtain⟨d1,d2⟩:=qC h
  rw[Bool.and_eq_true,decide_eq_true_eq] at h
  obtain⟨h,h0⟩:=h
  obtain⟨ha,hb⟩:=eY h
  obtain⟨da,na⟩:=tH ha.is
  obtain⟨db,nb⟩:=tH hb.is
  have hz0:aK b.N≠0:=fun h=>h0 ((fM hb.is).2 h)
  have hbn:b.N.d.n≠0:=by have:=bF b.N;omega
  have hbl:aA.not (aA.beq (aV.below a.N) (aV.below b.N))= !(aU a.N == aU b.N):=rfl
  rw[hbl,jR,jR]
  have hq:Rat.divInt (sgd (!(aU a.N == aU b.N)) (a.N.d.n*b.D.d.n)) ((a.D.d.n*b.N.d.n:Nat):Int)=bI a / bI b:=by
   rw[← lH]
   have e1:aK a.N*aK b.D=sgd (aU a.N) (a.N.d.n*b.D.d.n):=by
    rw[SU a.N,db]
    cases aU a.N <;> simp[sgd,Int.neg_mul]
   have e2:aK a.D*aK b.N=sgd (aU b.N) (a.D.d.n*b.N.d.n):=by
    rw[SU b.N,da]
    cases aU b.N <;> simp[sgd,Int.mul_neg]
   rw[e1,e2]
   cases aU a.N <;> cases aU b.N
   ·rfl
   ·show Rat.divInt (-((a.N.d.n*b.D.d.n:Nat):Int)) ((a.D.d.n*b.N.d.n:Nat):Int)=Rat.divInt ((a.N.d.n*b.D.d.n:Nat):Int) (-((a.D.d.n*b.N.d.n:Nat):Int))
    rw[← Rat.neg_divInt_neg,Int.neg_neg]
   ·rfl
   ·show Rat.divInt ((a.N.d.n*b.D.d.n:Nat):Int) ((a.D.d.n*b.N.d.n:Nat):Int)=Rat.divInt (-((a.N.d.n*b.D.d.n:Nat):Int)) (-((a.D.d.n*b.N.d.n:Nat):Int))
    rw[Rat.neg_divInt_neg]
  obtain⟨r1,r2⟩:=K6 rfl (Nat.mul_ne_zero na hbn) hq (Jf h h0)
  exact⟨aX.2 (gU _ _),aX.2 (gU _ _),decide_eq_true (by rw[bL];exact Nat.mul_ne_zero na hbn),r1.trans d1.symm,r2.trans d2.symm⟩
def tI9 (A:Alg) (S:SW) (X:SX) (M:SM) (F:SF) (K:SK):List (Nat×bU):=(94,aC [.v, .v] A (oD A K)) :: (95,aC [.v, .v] A (sS A F K)) :: (96,aC [.v, .v] A (Bf F)) :: (26,aC [.v] A (lQ F)) :: (98,aC [.v] A (mT S)) :: (61,bV [.v] A (HQ M)) :: (99,bV [.s (.int .u32), .s (.int .u32)] A (Bb A M)) :: (100,aC [.v, .s (.int .u32), .s (.int .u32)] A (Mo A X M)) :: ([])
theorem QY:COK Tryz.prog (aN (tI9 aA aV bR aZ aO cA)):=aB lE (aB nH (aB u9 (aB nI (aB u6 (aB sZ (aB u5 (aB u7 (bC))))))))
theorem KO:aJ Tryz.prog 119 (aC [.v, .v] aA (A9 aO)):=by
 refine aH (un:=⟨false,some [2,3,4,5,6,7,8,9,10,11,24,26,46]⟩) tok QY aL (fn:=Tryz.f119) ?_
 intro w Wr args bs r hg ho hWr A L k hA hL hk
 obtain⟨F,hF⟩:=exE aO
 obtain⟨K,hK⟩:=exE cA
 obtain⟨M,hM⟩:=exE aZ
 obtain⟨S,hS⟩:=exE aV
 obtain⟨X,hX⟩:=exE bR
 try rw[← hF]
 try rw[← hK]
 try rw[← hM]
 try rw[← hS]
 try rw[← hX]
 try rw[← hA]
 unfold A9 at hg
 split at hg <;> cases hg
 rename_i a b
 have di:=SD a b A hA S hS X hX M hM F hF K hK
 cbv
 repeat' with_reducible first | (intro hb;cbv) | refine UM ?_ ?_
 all_goals first | (with_reducible exact di.of _) | (with_reducible exact di.mu _ _) | (with_reducible exact(di.ok (by assumption)).o1) | (with_reducible exact(di.ok (by assumption)).o2) | (with_reducible exact(di.ok (by assumption)).o3) | skip
 ·rename_i h0;exact(di.s1 h0 hb).1
 ·rename_i h0;exact(di.s1 h0 hb).2.1
 ·rename_i h0;exact(di.s1 h0 hb).2.2.1
 ·rename_i h0
  have e:=(di.s1 h0 hb).2.2.2
  have e2:=(di.s h0).2
  refine hk _ _ (bE.pure rfl fun ρ=>?_)
  subst hF hA hK
  exact kP e e2
 ·rename_i h0;exact(di.s0 h0 hb).1
 ·rename_i h0;exact(di.s0 h0 hb).2.1
 ·rename_i h0;exact(di.s0 h0 hb).2.2.1
 ·rename_i h0
  have e:=(di.s0 h0 hb).2.2.2
  have e2:=(di.s h0).2
  refine hk _ _ (bE.pure rfl fun ρ=>?_)
  subst hF hA hK
  exact kP e e2
 ·have e:=di.no hb
  refine hk _ _ (bE.pure rfl fun ρ=>?_)
  subst hF
  exact kP e.1 e.2
 ·have e:=di.ok hb
  refine hk _ _ (bE.pure rfl fun ρ=>?_)
  subst hA hS hX hM hF hK
  exact xA e.eq e.ok
end Go.Eng
