
import Derived.Test.YtbfknjpggfkgjaaGreatSpecP3
set_option linter.all false
set_option exponentiation.threshold 3000
set_option maxRecDepth 100000
set_option maxHeartbeats 2000000
namespace Go.Eng
theorem acA {a b x:Pt} (h:onE a b x=true):dJ a=true∧dJ b=true∧dJ x=true∧onP a b x=true∧x≠a∧x≠b:=by
 unfold onE at h
 simp only[Bool.and_eq_true,Bool.not_eq_true',decide_eq_false_iff_not] at h
 have hh:([a,b,x].all dJ)=true:=h.1.1
 simp only[List.all_cons,List.all_nil,Bool.and_true,Bool.and_eq_true] at hh
 exact⟨hh.1,hh.2.1,hh.2.2,h.1.2,h.2.1,h.2.2⟩
end Go.Eng
