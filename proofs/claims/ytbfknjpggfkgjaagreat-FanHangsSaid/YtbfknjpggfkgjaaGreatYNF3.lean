
import Derived.Test.YtbfknjpggfkgjaaGreatYNF2
set_option linter.all false
set_option exponentiation.threshold 3000
set_option maxRecDepth 100000
set_option maxHeartbeats 2000000
namespace Go.Eng
open Go.Proofs
def aoN (A:Alg) (P:SNd):List CV→List Blk→Option LW
 | [.g [.P u, .P v, .P w], .s (.hs 0)],[.vec false .pt r]=>some ⟨[A.cmp .lss (A.len r) 10000], .c (.s (.hs 1)),[.vec true (.row [.P, .P, .P]) (P.fan u v w r)],[]⟩
 | _,_=>none
structure FoF (A:Alg) (P:SNd) (u v w:Pt) (r:List Pt):Prop where
 n0:A.cmp .lss (A.len r) 3=true→([]:List T3)=P.fan u v w r
 i0:A.cmp .lss (A.len r) 3=false→A.cmp .eql (A.len r) 3=true→A.cmp .lss 0 (A.len r)=true∧A.cmp .lss 1 (A.len r)=true∧A.cmp .lss 2 (A.len r)=true
 n1:A.cmp .lss (A.len r) 3=false→A.cmp .eql (A.len r) 3=true→[((dP A r 0,dP A r 1,dP A r 2,()):T3)]=P.fan u v w r
 n2:A.cmp .lss (A.len r) 3=false→A.cmp .eql (A.len r) 3=false→P.around (P.mid u v w) r=P.fan u v w r
 z0:A.cmp .leq 0 0=true
 z1:A.cmp .leq 0 1=true
 z2:A.cmp .leq 0 2=true
theorem asV (A:Alg) (hA:A=aA) (P:SNd) (hP:P=dT) (u v w:Pt) (r:List Pt):FoF A P u v w r:=by
 subst hA hP
 have e:dT.fan u v w r=aoM u v w r:=rfl
 have l3:aA.cmp .lss (aA.len r) 3=decide ((r.length:Int) < 3):=rfl
 have q3:aA.cmp .eql (aA.len r) 3=((r.length:Int) == 3):=rfl
 refine⟨fun h=>?_,fun h h2=>?_,fun h h2=>?_,fun h h2=>?_,bJ _ rfl _ _ (by decide),bJ _ rfl _ _ (by decide),bJ _ rfl _ _ (by decide)⟩
 ·rw[l3,decide_eq_true_eq] at h
  rw[e,aoM,if_pos (by omega)]
 ·rw[q3,beq_iff_eq] at h2
  exact⟨bH _ rfl _ _ (by show 0 < (r.length:Int);omega),bH _ rfl _ _ (by show 1 < (r.length:Int);omega),bH _ rfl _ _ (by show 2 < (r.length:Int);omega)⟩
 ·rw[l3,decide_eq_false_iff_not] at h
  rw[q3,beq_iff_eq] at h2
  rw[e,aoM,if_neg (by omega),if_pos (by omega)]
  rfl
 ·rw[l3,decide_eq_false_iff_not] at h
  rw[q3,beq_eq_false_iff_ne] at h2
  rw[e,aoM,if_neg (by omega),if_neg (by omega)]
  rfl
def nF3 (A:Alg) (P:SNd):List (Nat×bU):=(42,aC [.v] A (arU P)) :: (43,aR [.a .v, .a (.s .pt)] A (arT A P)) :: ([])
theorem ar4:COK Tryz.prog (aN (nF3 aA dT)):=aB apZ (aB apY (bC))
theorem an8:aJ Tryz.prog 15 (aR [.a .v, .a (.s .pt)] aA (aoN aA dT)):=by
 refine aW (un:=⟨false,some [0,1,2,4,5,7,11]⟩) tok ar4 aL (fn:=Tryz.f15) ?_
 intro w Wr args bs r hg ho hWr A L k hA hL hk
 obtain⟨P,hP⟩:=exE dT
 try rw[← hP]
 try rw[← hA]
 unfold aoN at hg
 split at hg <;> cases hg
 rename_i u v w r
 have o1:=(aG ho).1
 rw[← hA] at o1
 clear ho
 have f:=asV A hA P hP u v w r
 cbv
 repeat' with_reducible first | (intro hb;cbv) | refine UM ?_ ?_
 all_goals skip
 ·have e:=f.n0 hb
  subst hP
  exact hk _ _ (bW.nils (by rw[← e]) rfl (fun ρ=>rfl))
 all_goals first | exact f.z0 | exact f.z1 | exact f.z2 | exact(f.i0 (by assumption) (by assumption)).1 | exact(f.i0 (by assumption) (by assumption)).2.1 | exact(f.i0 (by assumption) (by assumption)).2.2 | exact o1 | skip
 ·have e:=f.n1 (by assumption) (by assumption)
  subst hP
  first | exact hk _ _ (bW.one (t:=2) rfl rfl (Nat.le_of_ble_eq_true rfl) (fun ρ=>rfl) rfl (.vec e)) | exact hk _ _ (bW.one (t:=3) rfl rfl (Nat.le_of_ble_eq_true rfl) (fun ρ=>rfl) rfl (.vec e))
 ·have e:=f.n2 (by assumption) (by assumption)
  subst hP
  first | exact hk _ _ (bW.one (t:=2) rfl rfl (Nat.le_of_ble_eq_true rfl) (fun ρ=>rfl) rfl (.vec e)) | exact hk _ _ (bW.one (t:=3) rfl rfl (Nat.le_of_ble_eq_true rfl) (fun ρ=>rfl) rfl (.vec e)) | exact hk _ _ (bW.one (t:=4) rfl rfl (Nat.le_of_ble_eq_true rfl) (fun ρ=>rfl) rfl (.vec e))
end Go.Eng
