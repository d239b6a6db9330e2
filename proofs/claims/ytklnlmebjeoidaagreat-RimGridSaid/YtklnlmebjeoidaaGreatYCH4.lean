
import Derived.Test.YtklnlmebjeoidaaGreatYCH1
import Derived.Test.YtklnlmebjeoidaaGreatYCUA
import Derived.Test.YtklnlmebjeoidaaGreatYCTA
set_option linter.all false
set_option exponentiation.threshold 3000
set_option maxRecDepth 100000
set_option maxHeartbeats 2000000
namespace Go.Eng
open Go.Proofs
def ac6 (F:SF):List CV→List Blk→Option LR
 | [.g [.R x], .g [.R y]],[]=>some ⟨[], .c (.s (.int .i64 (F.cmp x y))),[]⟩
 | _,_=>none
def hC0 (A:Alg) (F:SF):List (Nat×bU):=(19,aC [.v, .v] A (A1 F)) :: ([])
theorem afL:COK Tryz.prog (aN (hC0 aA aO)):=aB Gs (bC)
theorem ac9:aJ Tryz.prog 27 (aC [.v, .v] aA (ac6 aO)):=by
 refine aH (un:=⟨false,some [0,1,2,3,4,5]⟩) tok afL aL (fn:=Tryz.f27) ?_
 intro w Wr args bs r hg ho hWr A L k hA hL hk
 obtain⟨F,hF⟩:=exE aO
 try rw[← hF]
 try rw[← hA]
 unfold ac6 at hg
 split at hg <;> cases hg
 rename_i x y
 cbv
 subst hF
 exact hk _ _ (bE.pure rfl fun ρ=>rfl)
def afD (A:Alg) (I:SP) (H:SH):List CV→List Blk→Option LW
 | [.s (.hs 0), .g [.P p]],[.vec false .pt l]=>some ⟨[A.cmp .lss (A.len l) 1000000,I.rise l,H.all [p]], .t [.s (.int .i64 (I.pos l p)), .s (.bool (I.there l p))],[],[]⟩
 | _,_=>none
structure PlJ (l:List Pt) (p:Pt) (i j:Int):Prop where
 i0:0≤i
 ij:i≤j
 j1:j≤aY l
 lo: ∀ k,0≤k→k < i→iQ (pC l k) p < 0
 hi: ∀ k,j≤k→k < aY l→iQ (pC l k) p > 0
structure PlS (A:Alg) (H:SH) (I:SP) (l:List Pt) (p:Pt) (i j m:Int):Prop where
 o1:A.cmp .leq 0 m=true
 o2:A.cmp .lss m (A.len l)=true
 o3:H.all [dP A l m,p]=true
 eq:A.cmp .eql (H.cmp (dP A l m) p) 0=true→m=I.pos l p∧true=I.there l p
 n1:A.cmp .lss (H.cmp (dP A l m) p) 0=true→PlJ l p (A.bin .add .i64 m 1) j∧(j - A.bin .add .i64 m 1).toNat < (j - i).toNat
 n0:A.cmp .eql (H.cmp (dP A l m) p) 0=false→A.cmp .lss (H.cmp (dP A l m) p) 0=false→PlJ l p i m∧(m - i).toNat < (j - i).toNat
theorem adT {l:List Pt} {p:Pt} (hr:Z4 l) (hp:dJ p=true) {m:Int} (m0:0≤m) (m1:m≤aY l) (lo: ∀ k,0≤k→k < m→iQ (pC l k) p < 0) (hi:m < aY l→ ¬ iQ (pC l m) p < 0):m=hO l p:=by
 have pb:=UV l p
 have lt:=acW hr hp
 rcases Int.lt_trichotomy m (hO l p) with h | h | h
 ·exact absurd (lt.1 m m0 h) (hi (by omega))
 ·exact h
 ·exact absurd (lo _ pb.1 h) (lt.2 _ (Int.le_refl _) (by omega))
theorem agI {l:List Pt} {p:Pt} {i j m:Int} (hr:Z4 l) (hp:dJ p=true) (hl:aY l < 1000000) (h:PlJ l p i j) (hm:i < j→m=(i+j) / 2) (A:Alg) (hA:A=aA) (H:SH) (hH:H=bD) (I:SP) (hI:I=dL) (hb:A.cmp .lss i j=true):PlS A H I l p i j m:=by
 subst hA hH hI
 obtain⟨i0,ij,j1,lo,hi⟩:=h
 have hb:i < j:=of_decide_eq_true hb
 have hm:=hm hb
 have m0:0≤m:=by omega
 have m1:m < aY l:=by omega
 have hg:=hr.ok m m0 m1
 have ad:aA.bin .add .i64 m 1=m+1:=by show IntKind.i64.wrap _=_;rw[IntKind.wrap_i64];omega
 have ec:bD.cmp (dP aA l m) p=iQ (pC l m) p:=VJ hg hp
 refine⟨bJ _ rfl _ _ m0,bH _ rfl _ _ m1,Po hg hp,fun h=>?_,fun h=>?_,fun h h'=>?_⟩
 ·rw[ec] at h
  have h:(iQ (pC l m) p == 0)=true:=h
  rw[beq_iff_eq] at h
  have hmp:m=hO l p:=adT hr hp m0 (by omega) (fun k k0 k1=>by
   have:=hr.lt k m k0 k1 m1
   rw[ac2] at this ⊢
   rw[adE] at h
   grind) (fun _=>by omega)
  refine⟨hmp,?_⟩
  show true=(decide (hO l p < aY l)&&decide (bD.cmp (pC l (hO l p)) p=0))
  rw[← hmp,VJ hg hp,decide_eq_true m1,decide_eq_true h];rfl
 ·rw[ec] at h
  rw[ad]
  have h:iQ (pC l m) p < 0:=of_decide_eq_true h
  refine⟨⟨by omega,by omega,j1,fun k k0 k1=>?_,hi⟩,by omega⟩
  by_cases hk:k=m
  ·rw[hk];exact h
  ·exact tV (hr.lt k m k0 (by omega) m1) h
 ·rw[ec] at h h'
  have h:(iQ (pC l m) p == 0)=false:=h
  have h:iQ (pC l m) p≠0:=by simpa using h
  have h': ¬ iQ (pC l m) p < 0:=of_decide_eq_false h'
  have hg':iQ (pC l m) p > 0:=by omega
  refine⟨⟨i0,by omega,by omega,lo,fun k k0 k1=>?_⟩,by omega⟩
  by_cases hk:k=m
  ·rw[hk];exact hg'
  ·have:=hr.lt m k m0 (by omega) k1
   rw[ac2] at this
   rw[adC] at hg' ⊢
   grind
theorem agH {l:List Pt} {p:Pt} {i j:Int} (hr:Z4 l) (hp:dJ p=true) (h:PlJ l p i j) (A:Alg) (hA:A=aA) (I:SP) (hI:I=dL) (hb:A.cmp .lss i j=false):i=I.pos l p∧false=I.there l p:=by
 subst hA hI
 obtain⟨i0,ij,j1,lo,hi⟩:=h
 have hb: ¬ i < j:=of_decide_eq_false hb
 have e:i=hO l p:=adT hr hp i0 (by omega) lo fun hl=>by
  have:=hi i (by omega) hl
  omega
 refine⟨e,?_⟩
 show false=(decide (hO l p < aY l)&&decide (bD.cmp (pC l (hO l p)) p=0))
 by_cases hl:hO l p < aY l
 ·have pb:=UV l p
  have:=hi (hO l p) (by omega) hl
  rw[VJ (hr.ok _ pb.1 hl) hp,decide_eq_false (show ¬ iQ (pC l (hO l p)) p=0 by omega)]
  simp
 ·rw[decide_eq_false hl];rfl
def agG (A:Alg) (i j:Int):Int:=A.bin .quo .i64 (A.bin .add .i64 i j) 2
theorem aeN {l:List Pt} {p:Pt} {i j:Int} (hl:aY l < 1000000) (h:PlJ l p i j) (A:Alg) (hA:A=aA):i < j→agG A i j=(i+j) / 2:=fun hb=>by
 subst hA
 obtain⟨i0,ij,j1, -, -⟩:=h
 show IntKind.i64.wrap ((IntKind.i64.wrap (i+j)).tdiv 2)=_
 have e1:IntKind.i64.wrap (i+j)=i+j:=by rw[IntKind.wrap_i64];omega
 rw[e1,Int.tdiv_eq_ediv_of_nonneg (by omega),IntKind.wrap_i64]
 omega
def hC1 (A:Alg) (H:SH):List (Nat×bU):=(28,aC [.v, .v] A (acS H)) :: ([])
theorem aeK:COK Tryz.prog (aN (hC1 aA bD)):=aB acU (bC)
theorem ad8:aJ Tryz.prog 24 (aR [.a (.s .pt), .a .v] aA (afD aA dL bD)):=by
 refine aW (un:=⟨false,some [0,1,3,4,5,6,7,8,9,14,26,29]⟩) tok aeK aL (fn:=Tryz.f24) ?_
 intro w Wr args bs r hg ho hWr A L k hA hL hk
 obtain⟨H,hH⟩:=exE bD
 obtain⟨I,hI⟩:=exE dL
 try rw[← hH]
 try rw[← hI]
 try rw[← hA]
 unfold afD at hg
 split at hg <;> cases hg
 rename_i p l
 have hlen:aY l < 1000000:=acT (aG ho).1
 have hr:Z4 l:=aaQ.1 (aG (aG ho).2).1
 have hp:dJ p=true:=by have h:(dJ p&&true)=true:=(aG (aG (aG ho).2).2).1;simpa using h
 clear ho
 have i0:PlJ l p 0 (A.len l):=by subst hA;exact⟨Int.le_refl _,Int.natCast_nonneg _,Int.le_refl _,fun k k0 k1=>by omega,fun k k0 k1=>by have k0:aY l≤k:=k0;omega⟩
 cbv
 refine hL _ _ _ (aQ (un:=⟨false,some [0,1,3,4,5,6,7,8,9,14,26,29]⟩) tok aeK aL (fun q:Int×Int=>⟨[(7,⟨[], .c (.s (.int .i64 q.2))⟩),(6,⟨[], .c (.s (.int .i64 q.1))⟩),(3,⟨[], .c (.s (.hp 1 0))⟩),(0,⟨[], .c (.s (.hs 0))⟩)],[(1, .fix true [.P p]),(0, .vec false .pt l)],2⟩)
  (fun q=>PlJ l p q.1 q.2) (fun q=>(q.2 - q.1).toNat) (0,A.len l) i0 ?_ (fun _ i hi=>by have:=hWr i hi;simp at this;show i < 2;omega) ?_)
 ·exact⟨⟨⟨rfl,rfl,fun _=>rfl⟩,⟨rfl,rfl,fun _=>rfl⟩,⟨rfl,rfl,fun _=>rfl⟩,⟨rfl,rfl,fun _=>rfl⟩,trivial⟩,⟨aF rfl,aF rfl,trivial⟩,rfl,rfl⟩
 clear i0
 rintro⟨i,j⟩ hJ A2 L2 k2 hA2 hL2 hnext hexit hret
 have st:=fun hb=>agI hr hp hlen hJ (aeN hlen hJ A2 hA2) A2 hA2 H hH I hI hb
 have en:=fun hb=>agH hr hp hJ A2 hA2 I hI hb
 clear hJ
 rw[← hA2, ← hH]
 cbv
 repeat' with_reducible first | (intro hb;cbv) | refine UM ?_ ?_
 all_goals first | exact(st (by assumption)).o1 | exact(st (by assumption)).o2 | exact(st (by assumption)).o3 | skip
 ·have e:=(st (by assumption)).eq hb
  have eA:A2=A:=hA2.trans hA.symm
  apply hret
  clear hexit hnext hret st en
  subst eA hI
  cbv
  exact hk _ _ (bW.pure rfl rfl fun ρ=>ae1 e.1 e.2)
 ·obtain⟨nx,ms⟩:=(st (by assumption)).n1 hb
  refine hnext _ (_,j) nx ms ?_
  subst hA2 hA
  exact⟨⟨⟨rfl,rfl,fun _=>rfl⟩,⟨rfl,rfl,fun _=>rfl⟩,⟨rfl,rfl,fun _=>rfl⟩,⟨rfl,rfl,fun _=>rfl⟩,trivial⟩,⟨aF rfl,aF rfl,trivial⟩,rfl,rfl⟩
 ·obtain⟨nx,ms⟩:=(st (by assumption)).n0 (by assumption) hb
  refine hnext _ (i,_) nx ms ?_
  subst hA2 hA
  exact⟨⟨⟨rfl,rfl,fun _=>rfl⟩,⟨rfl,rfl,fun _=>rfl⟩,⟨rfl,rfl,fun _=>rfl⟩,⟨rfl,rfl,fun _=>rfl⟩,trivial⟩,⟨aF rfl,aF rfl,trivial⟩,rfl,rfl⟩
 ·have e:=en hb
  have eA:A2=A:=hA2.trans hA.symm
  apply hexit
  clear hexit hnext hret st en
  subst eA hI
  cbv
  exact hk _ _ (bW.pure rfl rfl fun ρ=>ae1 e.1 e.2)
end Go.Eng
