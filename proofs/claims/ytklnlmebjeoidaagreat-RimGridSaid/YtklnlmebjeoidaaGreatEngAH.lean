
import Derived.Test.YtklnlmebjeoidaaGreatEngW
set_option linter.all false
set_option exponentiation.threshold 3000
set_option maxRecDepth 100000
namespace Go.Eng
open Go.RowKit Go.WideShapes Go.ChangeShapes
section
variable {H:Type} {enc:TypeId×Value→H} {P:Program} {w w':World}
theorem aeW {r:Reach} {b0:Nat} {t:TypeId} {v:Value} {d:DataW H} {base:Nat} {sp:Nat→Bool} {held:Bool} {ps:List MemPlace} {td:TypeDesc} (ht:P.underlying t=some td) (hrow:td.isRow=true) (hk:kT P 20 t=some (kP++(kP++kP)))
  (hval:Value.okWide P w r b0 t v) (hd:DataW.Trod enc P w base sp held t v d ps): ∃ a b c:Pt,v=(CV.g [.P a, .P b, .P c]).den vC:=by
 obtain⟨cs,rfl,h⟩:=V2 ht hrow hk hval hd
 obtain⟨h1,h2⟩:=g8 (k1:=kP) (k2:=kP++kP) h
 obtain⟨h3,h4⟩:=g8 (k1:=kP) (k2:=kP) h2
 obtain⟨a,ha⟩:=IP h1
 obtain⟨b,hb⟩:=IP h3
 obtain⟨c,hc⟩:=IP h4
 exact⟨a,b,c,by show _=Value.agg (a.cells++(b.cells++(c.cells++[]))).toArray;rw[List.append_nil,ha,hb,hc,List.take_append_drop,List.take_append_drop]⟩
end
end Go.Eng
