
import Derived.Test.YtbfknjpggfkgjaaGreatSpecQ3
set_option linter.all false
set_option exponentiation.threshold 3000
namespace Go.Eng
def Lt3 (a b:I3):Prop:=a.1 < b.1∨(a.1=b.1∧(a.2.1 < b.2.1∨(a.2.1=b.2.1∧a.2.2 < b.2.2)))
theorem aqA (a b:I3):cmp3 a b < 0↔Lt3 a b:=by
 unfold cmp3 ap6 Lt3
 repeat' split
 all_goals omega
theorem apW (x:I3): ¬ Lt3 x x:=by unfold Lt3;omega
theorem aqK {x y z:I3} (h1:Lt3 x y) (h2:Lt3 y z):Lt3 x z:=by unfold Lt3 at *;omega
theorem aqJ {x y z:I3} (h1: ¬ Lt3 x y) (h2: ¬ Lt3 y z): ¬ Lt3 x z:=by unfold Lt3 at *;omega
theorem arA:Go.Sort.SWO (Go.Proofs.ltOf fun x y: {x:I3 // (fun _=>true) x=true} =>cmp3 x.1 y.1):=by
 have e: ∀ x y: {x:I3 // (fun _=>true) x=true},Go.Proofs.ltOf (fun x y: {x:I3 // (fun _=>true) x=true} =>cmp3 x.1 y.1) x y=true↔Lt3 x.1 y.1:=fun x y=>by
  show decide (cmp3 x.1 y.1 < 0)=true↔_
  rw[decide_eq_true_eq];exact aqA x.1 y.1
 refine⟨fun x=>?_,fun x y z=>?_,fun x y z=>?_⟩
 ·rw[← Bool.not_eq_true,e];exact apW _
 ·rw[e,e,e];exact aqK
 ·rw[← Bool.not_eq_true, ← Bool.not_eq_true, ← Bool.not_eq_true,e,e,e];exact aqJ
theorem arB: ∀ x y:I3,true=true→true=true→ ¬ cmp3 x y < 0→ ¬ cmp3 y x < 0→x=y:=fun x y _ _ h1 h2=>by
 rw[aqA] at h1 h2
 obtain⟨a,b,c⟩:=x
 obtain⟨a',b',c'⟩:=y
 unfold Lt3 at h1 h2
 simp only at h1 h2
 have:a=a'∧b=b'∧c=c':=by omega
 obtain⟨rfl,rfl,rfl⟩:=this
 rfl
theorem amW (m:Pt) (r:List Pt): ∀ k,(l4 m r k).length=k
 | 0=>rfl
 | k+1=>by unfold l4;rw[List.length_append,amW m r k];rfl
theorem anA: ∀ l:List T3,(anJ l).length=3*l.length
 | []=>rfl
 | t :: l=>by
  have:=anA l
  unfold anJ at *
  rw[List.flatMap_cons,List.length_append,this,List.length_cons]
  simp;omega
theorem aoY (l m:List T3):anJ (l++m)=anJ l++anJ m:=by unfold anJ;rw[List.flatMap_append]
end Go.Eng
