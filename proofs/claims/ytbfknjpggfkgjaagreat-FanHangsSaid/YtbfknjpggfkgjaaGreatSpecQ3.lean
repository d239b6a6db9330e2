
import Derived.Test.YtbfknjpggfkgjaaGreatSpecQ2
set_option linter.all false
set_option exponentiation.threshold 3000
namespace Go.Eng
theorem ajC (x:Pt):iQ x x=0:=adE.2 ⟨rfl,rfl⟩
theorem aj0 {a:List Pt} (ha:Z4 a) {i:Int} (h0:0≤i) (h1:i < aY a):v5 a (pC a i)=i∧i8 a (pC a i)=true:=by
 have hp:=ha.ok i h0 h1
 obtain⟨lo,hi⟩:=acW ha hp
 obtain⟨b0,b1⟩:=UV a (pC a i)
 have e:v5 a (pC a i)=i:=by
  rcases Int.lt_trichotomy (v5 a (pC a i)) i with h | h | h
  ·exact absurd (ha.lt _ i b0 h h1) (hi _ (Int.le_refl _) (by omega))
  ·exact h
  ·exact absurd (lo i h0 h) (aiE _)
 refine⟨e,?_⟩
 unfold i8
 rw[e,decide_eq_true h1,VJ hp hp,ajC]
 rfl
theorem aiX {a:List Pt} (ha:Z4 a) {i:Int} (h0:0≤i) (h1:i < aY a):f7.find a (pC a i)=i:=by
 obtain⟨e1,e2⟩:=aj0 ha h0 h1
 show(if dJ _&&i8 _ _ then v5 _ _ else -1)=i
 rw[ha.ok i h0 h1,e2,e1];rfl
theorem ahE {a:List Pt} (ha:Z4 a) {x:Pt} (hx:x∈a):0≤f7.find a x∧f7.find a x < aY a∧pC a (f7.find a x)=x:=by
 obtain⟨j,hj,e⟩:=List.getElem_of_mem hx
 have e2:pC a (j:Int)=x:=by rw[f9 hj];exact e
 have hl:(j:Int) < aY a:=by unfold aY;omega
 have h:=aiX ha (i:=j) (by omega) hl
 rw[e2] at h
 rw[h]
 exact⟨by omega,hl,e2⟩
end Go.Eng
