
import Derived.Test.YtklnlmebjeoidaaGreatYCH9
set_option linter.all false
set_option exponentiation.threshold 3000
set_option maxRecDepth 100000
set_option maxHeartbeats 2000000
namespace Go.Eng
open Go.Proofs
theorem aaT (a b:Pt) (l:List Pt):(adG a b l).length≤l.length:=by
 have h2:=UU (onQ a b) l l.length
 unfold adG adU
 split
 ·rw[List.length_reverse];omega
 ·omega
def afE (A:Alg) (I:SP):List CV→List Blk→Option LW
 | [.g [.P u, .P v, .P w], .s (.hs 0)],[.vec false .pt n]=>some ⟨[A.cmp .lss (A.len n) 1000], .c (.s (.hs 1)),[.vec true .pt (I.ring u v w n)],[]⟩
 | _,_=>none
def hD1 (A:Alg) (I:SP):List (Nat×bU):=(15,aR [.a .v, .a .v, .a (.s .pt)] A (ae7 A I)) :: (21,aR [.a .v] A (ac0 I)) :: ([])
theorem aeM:COK Tryz.prog (aN (hD1 aA dL)):=aB adA (aB ad7 (bC))
theorem adK:aJ Tryz.prog 12 (aR [.a .v, .a (.s .pt)] aA (afE aA dL)):=by
 refine aW (un:=⟨false,some [0,1,2,4,5,6,7,13]⟩) tok aeM aL (fn:=Tryz.f12) ?_
 intro w Wr args bs r hg ho hWr A L k hA hL hk
 obtain⟨I,hI⟩:=exE dL
 try rw[← hI]
 try rw[← hA]
 unfold afE at hg
 split at hg <;> cases hg
 rename_i u v w n
 have o1:=(aG ho).1
 have hn:(n.length:Int) < 1000:=of_decide_eq_true o1
 rw[← hA] at o1
 clear ho
 have hc:aY (I.cor u v w)≤4:=by subst hI;exact ab8 u v w
 have hf: ∀ a b,(I.btwq a b n).length≤1000:=fun a b=>by subst hI;have:=aaT a b n;show(adG a b n).length≤1000;omega
 have i0:RnJ (fun a b=>I.btwq a b n) (I.cor u v w) 0 []:=⟨Int.le_refl _,Int.natCast_nonneg _,rfl⟩
 cbv
 refine hL _ _ _ (gM (un:=⟨false,some [0,1,2,4,5,6,7,13]⟩) tok aeM aL 1 (fun i hi=>by have:=hWr i hi;simp at this;show i < 1;omega) (fun p:Int×List Pt=>⟨[(7,⟨[], .c (.s (.int .i64 p.1))⟩),(6,⟨[], .c (.s (.hs 2))⟩),(5,⟨[], .c (.s (.hs 3))⟩),(4,⟨[], .c (.s .nils)⟩),(2,⟨[], .c (.s (.hp 1 0))⟩),(1,⟨[], .c (.s (.hs 0))⟩)],[(0, .vec false .pt n),(1, .fix true [.P u, .P v, .P w]),(2, .vec true .pt (I.cor u v w)),(3, .vec true .pt p.2)],4⟩)
  (fun p=>RnJ (fun a b=>I.btwq a b n) (I.cor u v w) p.1 p.2) (fun p=>(aY (I.cor u v w) - p.1).toNat) (0,[]) i0 [(3, .nils)] ?_ (fun _=>Nat.le_of_ble_eq_true rfl) ?_)
 ·exact⟨⟨⟨rfl,rfl,fun _=>rfl⟩,⟨rfl,rfl,fun _=>rfl⟩,⟨rfl,rfl,fun _=>rfl⟩,⟨rfl,rfl,fun _=>rfl⟩,⟨rfl,rfl,fun _=>rfl⟩,⟨rfl,rfl,fun _=>rfl⟩,trivial⟩,⟨⟨rfl,rfl,rfl,rfl,fun h=>h⟩,⟨rfl,rfl,fun _=>rfl⟩,⟨rfl,rfl,rfl,rfl,fun h=>h⟩,rfl,trivial⟩,rfl,rfl,rfl,rfl⟩
 clear i0
 rintro⟨i,M⟩ hJ2 A2 L2 k2 hA2 hL2 hnext hexit hret
 have st:=fun hb=>af4 hc hf hJ2 A2 hA2 hb
 have en:A2.cmp .lss i (A2.len (I.cor u v w))=false→M=I.ring u v w n:=fun hb=>by
  subst hA2 hI
  have hb: ¬ i < aY (dL.cor u v w):=of_decide_eq_false hb
  have h1:i≤aY (dL.cor u v w):=hJ2.k1
  have:i=aY (dL.cor u v w):=by omega
  have e:M=acX (fun a b=>dL.btwq a b n) (dL.cor u v w) i.toNat:=hJ2.e
  rw[e,this];rfl
 clear hJ2
 rw[← hA2, ← hI]
 have cl:A2.cmp .lss (A2.len (I.cor u v w)) 1000000=true:=by subst hA2;exact bH _ rfl _ _ (by show aY (I.cor u v w) < 1000000;omega)
 cbv
 repeat' with_reducible first | (intro hb;cbv) | refine UM ?_ ?_
 all_goals first | exact(st (by assumption)).o1 | assumption | exact(st (by assumption)).c1 | exact(st (by assumption)).nz | exact(st (by assumption)).i1 | exact(st (by assumption)).i2 | exact(st (by assumption)).c2 | (rw[hA2, ← hA];exact o1) | skip
 ·have st:=st (by assumption)
  refine hnext _ (i+1,_) [(3, .hs 7)] st.nx st.ms ?_
  have ead:=st.ad
  subst hA2 hA
  exact⟨⟨⟨rfl,rfl,leI ead⟩,⟨rfl,rfl,fun _=>rfl⟩,⟨rfl,rfl,fun _=>rfl⟩,⟨rfl,rfl,fun _=>rfl⟩,⟨rfl,rfl,fun _=>rfl⟩,⟨rfl,rfl,fun _=>rfl⟩,trivial⟩,⟨⟨rfl,rfl,rfl,rfl,fun h=>h⟩,⟨rfl,rfl,fun _=>rfl⟩,⟨rfl,rfl,rfl,rfl,fun h=>h⟩,⟨rfl,rfl,rfl,rfl,fun h=>h⟩,trivial⟩,rfl,rfl,rfl,rfl⟩
 ·have e:=en hb
  have eA:A2=A:=hA2.trans hA.symm
  apply hexit
  clear hexit hnext hret st en
  subst eA hI
  cbv
  exact hk _ _ (bW.one (t:=3) rfl rfl (Nat.le_of_ble_eq_true rfl) (fun ρ=>rfl) rfl (.vec e))
end Go.Eng
