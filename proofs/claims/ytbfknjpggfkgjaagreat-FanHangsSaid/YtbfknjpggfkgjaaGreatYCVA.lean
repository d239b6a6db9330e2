
import Derived.Test.YtbfknjpggfkgjaaGreatYCU1
import Derived.Test.YtbfknjpggfkgjaaGreatSpecFA
import Derived.Test.YtbfknjpggfkgjaaGreatEngZA
set_option linter.all false
set_option exponentiation.threshold 3000
set_option maxRecDepth 100000
set_option maxHeartbeats 2000000
namespace Go.Eng
open Go.Proofs
def tK1 (A:Alg) (H:SH):List (Nat×bU):=(80,aC [.v] A (C1 H)) :: ([])
theorem OK:COK Tryz.prog (aN (tK1 aA bD)):=aB DQ (bC)
theorem Kw:aJ Tryz.prog 196 (aC [.s .pt] aA (uH aA bD)):=by
 refine aH (un:=⟨false,some [0,2,4,5,6,7,8,13]⟩) tok OK aL (fn:=Tryz.f196) ?_
 intro w Wr args bs r hg ho hWr A L k hA hL hk
 obtain⟨H,hH⟩:=exE bD
 try rw[← hH]
 try rw[← hA]
 unfold uH at hg
 split at hg <;> cases hg
 rename_i l
 have hlen:=(aG ho).1
 simp only[aA,aP,decide_eq_true_eq] at hlen
 have hlen:l.length < 1000000:=by omega
 clear ho
 have i0:ApI l 0:=⟨Int.le_refl 0,Int.natCast_nonneg _,rfl⟩
 cbv
 refine hL _ _ _ (aQ (un:=⟨false,some [0,2,4,5,6,7,8,13]⟩) tok OK aL (fun k:Int=>⟨[(7,⟨[], .c (.s (.int .i64 k))⟩),(6,⟨[], .c (.s (.int .i64 (aA.len l)))⟩),(5,⟨[], .c (.s (.hs 0))⟩),(2,⟨[], .c (.s (.tt false))⟩)],[(0, .vec false .pt l)],1⟩)
  (fun k=>ApI l k) (fun k=>((l.length:Int) - k).toNat) 0 i0 ?_ (fun _ i hi=>by have:=hWr i hi;simp at this;show i < 1;omega) ?_)
 ·exact⟨⟨⟨rfl,rfl,fun _=>rfl⟩,⟨rfl,rfl,leI (by subst hA;rfl)⟩,⟨rfl,rfl,fun _=>rfl⟩,⟨rfl,rfl,fun _=>rfl⟩,trivial⟩,⟨aF rfl,trivial⟩,rfl,rfl⟩
 clear i0
 rintro k hI A2 L2 k2 hA2 hL2 hnext hexit hret
 have st:=fun hb:A2.cmp .lss k (A2.len l)=true=>Ca hlen hI A2 hA2 H hH hb _ rfl
 have en:=fun hb:A2.cmp .lss k (A2.len l)=false=>B8 hI A2 hA2 H hH hb
 clear hI
 rw[← hA2, ← hH]
 cbv
 repeat' with_reducible first | (intro hb;cbv) | refine UM ?_ ?_
 all_goals first | exact(st hb).o1 | exact hb | skip
 ·rename_i hb0
  have e:=(st hb0).no hb
  apply hret
  clear hexit hnext hret st en
  cbv
  refine hk _ _ (bE.pure rfl fun ρ=>?_)
  subst hH
  exact BH e
 ·rename_i hb0
  refine hnext _ (k+1) ((st hb0).nx hb) (st hb0).ms ?_
  have ead:=(st hb0).ad
  subst hA2
  exact⟨⟨⟨rfl,rfl,leI ead⟩,⟨rfl,rfl,fun _=>rfl⟩,⟨rfl,rfl,fun _=>rfl⟩,⟨rfl,rfl,fun _=>rfl⟩,trivial⟩,⟨aF rfl,trivial⟩,rfl,rfl⟩
 ·have e:=en hb
  apply hexit
  clear hexit hnext hret st en
  cbv
  refine hk _ _ (bE.pure rfl fun ρ=>?_)
  subst hH
  exact BH e
def JM (H:SH):List CV→List Blk→Option LR
 | [.g [.P a, .P b], .g [.P p]],[]=>some ⟨[], .c (.s (.int .i64 (H.turn a b p))),[]⟩
 | _,_=>none
def PU (A:Alg):List CV→List Blk→Option LR
 | [.g [.P a, .P b], .g [.P p]],[]=>some ⟨[], .c (.s (.bool (A.ite (A.eqP p a) true (A.eqP p b)))),[]⟩
 | _,_=>none
def tK2 (A:Alg) (H:SH):List (Nat×bU):=(224,aC [.v, .v, .v] A (FI H)) :: ([])
theorem OL:COK Tryz.prog (aN (tK2 aA bD)):=aB z8 (bC)
theorem Gj:aJ Tryz.prog 212 (aC [.v, .v] aA (JM bD)):=by
 refine aH (un:=⟨false,some [2,3,4,5,6]⟩) tok OL aL (fn:=Tryz.f212) ?_
 intro w Wr args bs r hg ho hWr A L k hA hL hk
 obtain⟨H,hH⟩:=exE bD
 try rw[← hH]
 try rw[← hA]
 unfold JM at hg
 split at hg <;> cases hg
 cbv
 refine hk _ _ (bE.pure rfl fun ρ=>?_)
 subst hH
 exact B2 rfl
theorem N1:aJ Tryz.prog 213 (aC [.v, .v] aA (PU aA)):=by
 refine aH (un:=⟨false,some [2,3,4]⟩) tok OL aL (fn:=Tryz.f213) ?_
 intro w Wr args bs r hg ho hWr A L k hA hL hk
 obtain⟨H,hH⟩:=exE bD
 try rw[← hH]
 try rw[← hA]
 unfold PU at hg
 split at hg <;> cases hg
 cbv
 refine hk _ _ (bE.pure rfl fun ρ=>?_)
 subst hA
 exact yQ rfl
def PT (H:SH) (J:SJ):List CV→List Blk→Option LR
 | [.g [.P a, .P b], .g [.P p]],[]=>some ⟨[H.all [a,b,p]], .c (.s (.bool (J.on a b p))),[]⟩
 | _,_=>none
theorem P4 {a b p:Pt} (A:Alg) (hA:A=aA) (H:SH) (hH:H=bD) (J:SJ) (hJ:J=kM) (h:H.all [a,b,p]=true) :
  A.ite (A.ite (A.cmp .geq (A.bin .mul .i64 (H.cmp a p) (H.cmp p b)) 0) (A.cmp .eql (H.turn a b p) 0) false) (A.ite (A.ite (A.cmp .neq (H.cmp a p) 0) true (A.cmp .neq (H.cmp p b) 0)) true (A.ite (A.eqP p a) true (A.eqP p b))) false=J.on a b p:=by
 subst hA hH hJ
 have h:dX [a,b,p]=true:=h
 obtain⟨ha,hb,hp⟩:=fV h
 have e1:bD.cmp a p=iQ a p:=zG (Po (fJ.2 ha) (fJ.2 hp))
 have e2:bD.cmp p b=iQ p b:=zG (Po (fJ.2 hp) (fJ.2 hb))
 rw[e1,e2,kN h]
 have hm:aA.bin .mul .i64 (iQ a p) (iQ p b)=iQ a p*iQ p b:=by
  show IntKind.i64.wrap (iQ a p*iQ p b)=_
  rw[IntKind.wrap_i64]
  rcases jE a p with ⟨_,e,_⟩ | ⟨_,_,e,_⟩ | ⟨_,e,_⟩ <;> rcases jE p b with ⟨_,e',_⟩ | ⟨_,_,e',_⟩ | ⟨_,e',_⟩ <;> rw[e,e'] <;> rfl
 rw[hm]
 show _=onP a b p
 rw[← Nd h]
 show(if(if decide (iQ a p*iQ p b ≥ 0)=true then(cZ (bB a b p) 0 == 0) else false)=true then(if(if(iQ a p != 0)=true then true else(iQ p b != 0))=true then true else(if decide (p=a)=true then true else decide (p=b))) else false)=_
 have q: ∀ z:Int,(z != 0)=decide (z≠0):=fun z=>by by_cases h:z=0 <;> simp[h]
 have q2: ∀ z:Int,(z == 0)=decide (z=0):=fun z=>by by_cases h:z=0 <;> simp[h]
 rw[q,q,q2]
 simp only[ge_iff_le]
 cases decide (0≤iQ a p*iQ p b) <;> cases decide (cZ (bB a b p) 0=0) <;> cases decide (iQ a p≠0) <;> cases decide (iQ p b≠0) <;> cases decide (p=a) <;> cases decide (p=b) <;> rfl
def tK3 (A:Alg) (H:SH):List (Nat×bU):=(128,aC [.v, .v] A (CQ H)) :: (212,aC [.v, .v] A (JM H)) :: (213,aC [.v, .v] A (PU A)) :: ([])
theorem Q3:COK Tryz.prog (aN (tK3 aA bD)):=aB yJ (aB Gj (aB N1 (bC)))
theorem Ky:aJ Tryz.prog 197 (aC [.v, .v] aA (PT bD kM)):=by
 refine aH (un:=⟨false,some [2,3,4,5,6,7,8]⟩) tok Q3 aL (fn:=Tryz.f197) ?_
 intro w Wr args bs r hg ho hWr A L k hA hL hk
 obtain⟨H,hH⟩:=exE bD
 obtain⟨J,hJ⟩:=exE kM
 try rw[← hH]
 try rw[← hJ]
 try rw[← hA]
 unfold PT at hg
 split at hg <;> cases hg
 rename_i a b p
 have h0:=(aG ho).1
 clear ho
 rw[← hH] at h0
 have hf:=P4 A hA H hH J hJ h0
 cbv
 refine hk _ _ (bE.pure rfl fun ρ=>?_)
 subst hJ
 exact yQ hf
theorem Nl {α:Type} {A:Alg} (hA:A=aA) (l:List α) (h:l.length < 1000000):A.cmp .lss (A.len l) 1000000=true:=by
 subst hA;exact bH _ rfl _ _ (by show(l.length:Int) < 1000000;omega)
def Mn (A:Alg) (H:SH) (J:SJ):List CV→List Blk→Option LR
 | [.g [.P a], .g [.P b], .g [.P p]],[]=>some ⟨[], .t [.s (.bool (A.ite (H.all [a,b,p]) (J.on a b p) false)), .s (.bool (H.all [a,b,p]))],[]⟩
 | _,_=>none
theorem Ob {A:Alg} (hA:A=aA) {o c:Bool} :(A.not o=true→false=A.ite o c false∧false=o)∧(A.not o=false→c=A.ite o c false∧true=o):=by
 subst hA
 constructor
 ·intro h;have h:(!o)=true:=h;cases o
  ·exact⟨rfl,rfl⟩
  ·cases h
 ·intro h;have h:(!o)=false:=h;cases o
  ·cases h
  ·exact⟨rfl,rfl⟩
section
variable {ρ:Rho} {f:Nat→Nat}
theorem OZ {a b c d:Bool} (h1:a=c) (h2:b=d):(XV.t [.s (.tt a), .s (.tt b)]).den ρ=((XV.t [.s (.bool c), .s (.bool d)]).ren f).den ρ:=by subst h1 h2;rfl
theorem OW {a b c d:Bool} (h1:a=c) (h2:b=d):(XV.t [.s (.bool a), .s (.tt b)]).den ρ=((XV.t [.s (.bool c), .s (.bool d)]).ren f).den ρ:=by subst h1 h2;rfl
end
def tK4 (A:Alg) (H:SH) (J:SJ):List (Nat×bU):=(196,aC [.s .pt] A (uH A H)) :: (197,aC [.v, .v] A (PT H J)) :: ([])
theorem Q4:COK Tryz.prog (aN (tK4 aA bD kM)):=aB Kw (aB Ky (bC))
theorem N3:aJ Tryz.prog 163 (aC [.v, .v, .v] aA (Mn aA bD kM)):=by
 refine aH (un:=⟨false,some [3,4,5,6,7,13]⟩) tok Q4 aL (fn:=Tryz.f163) ?_
 intro w Wr args bs r hg ho hWr A L k hA hL hk
 obtain⟨H,hH⟩:=exE bD
 obtain⟨J,hJ⟩:=exE kM
 try rw[← hH]
 try rw[← hJ]
 try rw[← hA]
 unfold Mn at hg
 split at hg <;> cases hg
 rename_i a b p
 have al:=Nl hA [a,b,p] (by show 3 < 1000000;decide)
 have of:=Ob hA (o:=H.all [a,b,p]) (c:=J.on a b p)
 cbv
 repeat' with_reducible first | (intro hb;cbv) | refine UM ?_ ?_
 all_goals first | exact al | skip
 ·have e:=of.1 hb
  refine hk _ _ (bE.pure rfl fun ρ=>?_)
  subst hA hH hJ
  exact OZ e.1 e.2
 ·exact(of.2 hb).2.symm
 ·have e:=of.2 hb
  refine hk _ _ (bE.pure rfl fun ρ=>?_)
  subst hA hH hJ
  exact OW e.1 e.2
end Go.Eng
