
import Derived.Test.YtklnlmebjeoidaaGreatYLH0
import Derived.Test.YtklnlmebjeoidaaGreatYCH10
set_option linter.all false
set_option exponentiation.threshold 3000
set_option maxRecDepth 100000
set_option maxHeartbeats 2000000
namespace Go.Eng
open Go.Proofs
def aeG:List CV→List Blk→Option LW
 | [.g [.P u, .P v, .P w], .s (.hs 0), .g [.P a], .g [.P b]],[.vec false .pt l]=>some ⟨[], .c (.s (.bool true)),[],[]⟩
 | _,_=>none
theorem adF {r:Rt} (h:cQ r 12=true):cQ r 60=true:=by
 unfold cQ at *
 simp only[Bool.and_eq_true,decide_eq_true_eq] at *
 exact⟨by omega,by omega,h.2.2⟩
theorem ad2 {u v w:Pt} (h:acJ u v w=true): ∀ p∈ZX u v w,dJ p=true:=by
 unfold acJ at h
 simp only[Bool.and_eq_true] at h
 obtain⟨⟨⟨⟨⟨⟨h0,h1⟩,h2⟩,h3⟩,h4⟩,h5⟩, -⟩:=h
 have g: ∀ {x y:Rt},aO.safe x 12=true→aO.safe y 12=true→dJ ⟨x,y⟩=true:=fun {x y} hx hy=>by
  show(cQ x 60&&cQ y 60)=true
  rw[adF hx,adF hy];rfl
 have c: ∀ (b:Prop) [Decidable b] (q p:Pt),p∈(if b then[q] else[])→p=q:=fun b _ q p hp=>by
  split at hp
  ·exact List.mem_singleton.1 hp
  ·cases hp
 intro p hp
 unfold ZX afA at hp
 rw[List.mem_append,List.mem_append,List.mem_append] at hp
 rcases hp with ((hp | hp) | hp) | hp
 ·rw[c _ _ _ hp];exact g h0 h2
 ·rw[c _ _ _ hp];exact g h1 h4
 ·rw[c _ _ _ hp];exact g h1 h5
 ·rw[c _ _ _ hp];exact g h0 h3
theorem adV {f g:Pt→Pt→List Pt} {c:List Pt} (h: ∀ p q,p∈c→q∈c→f p q=g p q): ∀ k,k≤c.length→acX f c k=acX g c k
 | 0,_=>rfl
 | k+1,hk=>by
  have ih:=adV h k (by omega)
  unfold acX
  rw[ih]
  have hm: ∀ j:Int,0≤j→j < (c.length:Int)→pC c j∈c:=fun j j0 j1=>by
   have:=dI (l:=c) (k:=j.toNat) (by omega)
   rw[Int.toNat_of_nonneg j0] at this
   rw[this];exact List.getElem_mem _
  have hl:(0:Int) < aY c:=by show(0:Int) < (c.length:Int);omega
  rw[h (pC c k) (pC c (((k:Int)+1) % aY c)) (hm k (by omega) (by omega)) (hm _ (Int.emod_nonneg _ (by omega)) (Int.emod_lt_of_pos _ hl))]
theorem adO {u v w:Pt} {n:List Pt} (h:acJ u v w=true) (hn:Z4 n):dL.rim u v w n=dL.ring u v w n:=by
 have hk:=ad2 h
 exact adV (fun p q hp hq=>adR hn (hk p hp) (hk q hq)) _ (Nat.le_refl _)
structure af5 (A:Alg) (I:SP) (u v w:Pt) (l:List Pt):Prop where
 o1:A.cmp .lss (A.len l) 1000=true
 n1:A.cmp .lss (A.len (I.srt l)) 1000=true
 c1:A.cmp .lss (A.len (I.rim u v w (I.srt l))) 1000000=true
 c2:A.cmp .lss (A.len (I.ring u v w (I.srt l))) 1000000=true
 b1: ∀ a b,A.cmp .lss (A.len (I.btw a b (I.srt l))) 1000000=true
 b2: ∀ a b,A.cmp .lss (A.len (I.btwq a b (I.srt l))) 1000000=true
 im: ∀ c d,d=true→A.imp c d=true
theorem acM {A:Alg} (hA:A=aA) {l:List Pt} {c:Bool} (h:A.ite (A.cmp .gtr (A.len l) 20) true c=false):l.length≤20∧c=false:=by
 subst hA
 have h:(if decide ((l.length:Int) > 20)=true then true else c)=false:=h
 by_cases g:(l.length:Int) > 20
 ·rw[decide_eq_true g] at h;cases h
 ·rw[decide_eq_false g] at h
  exact⟨by omega,h⟩
theorem afT (A:Alg) (hA:A=aA) (I:SP) (hI:I=dL) (u v w:Pt) {l:List Pt} (h:l.length≤20):af5 A I u v w l:=by
 subst hA hI
 have hs:(dL.srt l).length≤20:=Nat.le_trans (acO l l.length) h
 have hc:(ZX u v w).length≤4:=by have:=ab8 u v w;unfold aY at this;omega
 have r1:=Zz (f:=fun a b=>aaS a b (dL.srt l)) (c:=ZX u v w) (fun a b=>by have:=aaU a b (dL.srt l);omega) (ZX u v w).length
 have r2:=Zz (f:=fun a b=>adG a b (dL.srt l)) (c:=ZX u v w) (fun a b=>by have:=aaT a b (dL.srt l);omega) (ZX u v w).length
 have e1:dL.rim u v w (dL.srt l)=acX (fun a b=>aaS a b (dL.srt l)) (ZX u v w) (ZX u v w).length:=rfl
 have e2:dL.ring u v w (dL.srt l)=acX (fun a b=>adG a b (dL.srt l)) (ZX u v w) (ZX u v w).length:=rfl
 have ln: ∀ X:List Pt,aA.len X=(X.length:Int):=fun _=>rfl
 exact {
  o1:=bH _ rfl _ _ (by rw[ln];omega)
  n1:=bH _ rfl _ _ (by rw[ln];omega)
  c1:=bH _ rfl _ _ (by rw[ln,e1];omega)
  c2:=bH _ rfl _ _ (by rw[ln,e2];omega)
  b1:=fun a b=>bH _ rfl _ _ (by rw[ln];have:=aaU a b (dL.srt l);have e:dL.btw a b (dL.srt l)=aaS a b (dL.srt l):=rfl;rw[e];omega)
  b2:=fun a b=>bH _ rfl _ _ (by rw[ln];have:=aaT a b (dL.srt l);have e:dL.btwq a b (dL.srt l)=adG a b (dL.srt l):=rfl;rw[e];omega)
  im:=fun c d h=>by rw[h];cases c <;> rfl }
theorem aeY (A:Alg) (hA:A=aA) (H:SH) (hH:H=bD) (I:SP) (hI:I=dL) (u v w a b:Pt) (l:List Pt) (hg:A.not (I.good u v w)=false):I.same (I.rim u v w (I.srt l)) (I.ring u v w (I.srt l))=true∧(A.ite (A.not (H.all [a])) true (A.not (H.all [b]))=false→I.same (I.btw a b (I.srt l)) (I.btwq a b (I.srt l))=true):=by
 subst hA hH hI
 have hg:(!acJ u v w)=false:=hg
 rw[Bool.not_eq_false'] at hg
 have sm: ∀ x y:List Pt,x=y→dL.same x y=true:=fun x y h=>decide_eq_true h
 refine⟨sm _ _ (adO hg (show Z4 (dL.srt l) from Vi l l.length)),fun h=>?_⟩
 have ha: ∀ p,bD.all [p]=dJ p:=fun p=>by show(dJ p&&true)=_;rw[Bool.and_true]
 rw[ha,ha] at h
 have h:(if(!dJ a)=true then true else !dJ b)=false:=h
 cases h1:dJ a
 ·rw[h1] at h;cases h
 ·cases h2:dJ b
  ·rw[h1,h2] at h;cases h
  ·exact sm _ _ (adR (Vi l l.length) h1 h2)
def uY2 (A:Alg) (H:SH) (I:SP):List (Nat×bU):=(7,aR [] A (Zy)) :: (8,aR [.a .v] A (acI I)) :: (9,aR [.a (.s .pt)] A (afH A I)) :: (11,aR [.a .v, .a (.s .pt)] A (ae8 A I)) :: (12,aR [.a .v, .a (.s .pt)] A (afE A I)) :: (10,aR [.a (.s .pt), .a (.s .pt)] A (afG A I)) :: (13,aC [.v] A (C1 H)) :: (14,aR [.a .v, .a .v, .a (.s .pt)] A (aeF A I)) :: (15,aR [.a .v, .a .v, .a (.s .pt)] A (ae7 A I)) :: ([])
theorem af0:COK Tryz.prog (aN (uY2 aA bD dL)):=aB ac1 (aB ac8 (aB adM (aB adB (aB adK (aB adL (aB z9 (aB acK (aB adA (bC)))))))))
theorem acL:aJ Tryz.prog 3 (aR [.a .v, .a (.s .pt), .a .v, .a .v] aA (aeG)):=by
 refine aW (un:=⟨false,some [1000029,3000038,0,1,2,3,4,6,7,8,9,11,19]⟩) tok af0 aL (fn:=Tryz.f3) ?_
 intro w Wr args bs r hg ho hWr A L k hA hL hk
 obtain⟨H,hH⟩:=exE bD
 obtain⟨I,hI⟩:=exE dL
 try rw[← hH]
 try rw[← hI]
 try rw[← hA]
 unfold aeG at hg
 split at hg <;> cases hg
 rename_i u v w a b l
 have pf:=fun h=>afT A hA I hI u v w (l:=l) h
 cbv
 repeat' with_reducible first | (intro hb;cbv) | refine UM ?_ ?_
 ·exfalso;subst hA;cases hb
 ·exact hk _ _ (bW.pure rfl rfl fun ρ=>dT rfl)
 ·exact(pf (acM hA hb).1).o1
 have pf:=pf (acM hA hb).1
 have fin:=aeY A hA H hH I hI u v w a b l (acM hA hb).2
 refine Or.inl ?_
 refine IL (A.ite (A.not (H.all [a])) true (A.not (H.all [b]))) (fun h2=>Or.inl ?_) (fun h2=>Or.inr ?_)
 ·have b1: ∀ b c,b=c→A.beq b c=true:=fun b c h=>by subst hA h;show(b == b)=true;cases b <;> rfl
  exact⟨pf.n1,pf.n1,pf.c1,pf.c2,b1 _ _ fin.1,b1 _ _ h2,hk _ _ (bW.pure rfl rfl fun ρ=>dT rfl)⟩
 ·have b1: ∀ b c,b=c→A.beq b c=true:=fun b c h=>by subst hA h;show(b == b)=true;cases b <;> rfl
  exact⟨pf.n1,pf.n1,pf.c1,pf.c2,b1 _ _ fin.1,b1 _ _ h2,pf.n1,pf.n1,pf.b1 a b,pf.b2 a b,hk _ _ (bW.pure rfl rfl fun ρ=>dB (fin.2 h2))⟩
end Go.Eng
