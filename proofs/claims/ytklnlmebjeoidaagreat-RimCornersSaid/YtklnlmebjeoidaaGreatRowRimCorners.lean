
import Derived.Test.YtklnlmebjeoidaaGreatRows
import Derived.WalkKit
import Derived.ProofKit
import Derived.OpenShut
import Derived.Test.YtklnlmebjeoidaaGreatYLH3
import Derived.Test.YtklnlmebjeoidaaGreatEngAE
import Derived.Test.YtklnlmebjeoidaaGreatEngAH
set_option linter.all false
set_option exponentiation.threshold 3000
namespace Go.Proofs.YtklnlmebjeoidaaGreat.rimCorners
open Go.Eng Go.ChangeShapes Go.WideShapes Go.ChangeAt Go.RowKit
set_option linter.all false
theorem own:ownKnob Tryz.prog.godebug=none:=by kernel_rfl
def wit0:Wd:=⟨false,Dg.zero⟩
theorem walk (w:World) (u0 v0 w0:Pt) (v1_:Value) (a1:List Pt) (s1:SlP .pt w v1_ a1) :
  Calls Tryz.prog 6 (([.g [.P u0, .P v0, .P w0], .s (.hs 0)]:List CV).map (CV.den (Cb [⟨v1_, .pt,a1⟩]))).toArray w fun e w'=>e= .returned (.bool true)∧Below w.heap.size w w':=by
 refine Bk (ags:=[⟨v1_, .pt,a1⟩]) (args:=[.g [.P u0, .P v0, .P w0], .s (.hs 0)]) ag8 (fun a ha=>?_) (fun v hv ρ h=>?_) rfl (fun b hb=>?_)
 ·simp only[List.mem_cons,List.not_mem_nil,or_false] at ha
  rcases ha with rfl
  ·exact s1
 ·have hh: ∀ i,i < 1→ρ i=Cb [⟨v1_, .pt,a1⟩] i:=fun i hi=>h i hi
  simp only[List.mem_cons,List.not_mem_nil,or_false] at hv
  rcases hv with rfl | rfl
  ·rfl
  ·simp only[CV.den,Sc.den,aI,At.cells,hh 0 (by decide)]
 ·cases hb
set_option maxRecDepth 100000 in
theorem lifted (os:Os) (started:os.Started) (H:Type) (enc:TypeId×Value→H) :
  ReturnsInHanded {} Tryz.checked os 6 .any (Rows.rimCornersSpec.pre6 enc Tryz.prog Tryz.f6 Rows.rimCornersRow.domain false) (Rows.rimCornersSpec.post enc Tryz.prog Tryz.f6 false true false false):=by
 refine returnsInHanded_of_change (C:=Tryz.checked) own started (by kernel_rfl) Tryz.func6
  (ChangeSpec.witness6 (enc:=enc) (C:=Tryz.checked) false ⟨#[], #[(CV.g [.P ⟨⟨wit0,wit0⟩,⟨wit0,wit0⟩⟩, .P ⟨⟨wit0,wit0⟩,⟨wit0,wit0⟩⟩, .P ⟨⟨wit0,wit0⟩,⟨wit0,wit0⟩⟩]).den vC, .slice none 0 0],[]⟩ 8 (by kernel_rfl) (by kernel_rfl) (by kernel_rfl) (by kernel_rfl)) ?_
 intro W base args ds gs before hval0 hW hcnd _
 have hval: ∀ (j:Nat) t v,Tryz.f6.params[j]? =some t→args[j]? =some v→Value.okWide Tryz.prog W .any base t v:=hval0
 have hW':=hW
 obtain⟨p,q,hA0,hV,rfl,hfz,hnd⟩:=hW
 have hA:DataW.TrodAll enc Tryz.prog W 0 (fun _=>true) true Tryz.f6.params.toList args.toList ds p:=hA0
 rw[Tryz.params6] at hA hval
 obtain⟨v0,vs0,d0,ds0,p0,q0,hargs,rfl,rfl,h0,r0⟩:=trodAll_cons hA
 obtain⟨v1,vs1,d1,ds1,p1,q1,rfl,rfl,rfl,h1,r1⟩:=trodAll_cons r0
 obtain⟨rfl,rfl,rfl⟩:=trodAll_nil r1
 obtain rfl:args= #[v0,v1]:=by cases args;simp_all
 obtain⟨rfl,rfl⟩:=trodVars_none hV
 obtain⟨u0,v0,w0,rfl⟩:=aeW Tryz.underlying29 rfl (by kernel_rfl) (hval 0 29 v0 rfl rfl) h0
 obtain⟨a1,s1,q1⟩:=aeV (k:= .pt) Tryz.underlying30 (by kernel_rfl) (by kernel_rfl) IV (hval 1 30 v1 rfl rfl) h1
 have hwk:=walk W u0 v0 w0 v1 a1 s1
 refine Calls.mono hwk fun e W' ⟨he,hg⟩=>?_
 subst he
 exact⟨_,rfl,GY hW' (by kernel_rfl) rfl Tryz.underlying4 rfl rfl hg⟩
theorem over:Rows.rimCornersRow.holds Tryz.pinned (OpenSpec.ofChange Rows.rimCornersSpec):=
 OpenClaim.holds_of_wide 6 Tryz.f6 rfl rfl rfl rfl rfl rfl rfl ⟨rfl,rfl,rfl,rfl,rfl⟩ rfl rfl rfl rfl rfl (by kernel_rfl) Tryz.func6 (by kernel_rfl)
  (of_decide_eq_true (by kernel_rfl)) (by unfold Func.isWrapper;first | (rw[if_pos (by decide +kernel)];kernel_rfl) | (rw[if_neg (by decide +kernel)];exact⟨rfl,rfl⟩))
  (fun os started H enc _=>lifted os started H enc)
theorem proved:Rows.RimCornersSaid:=
 over
end Go.Proofs.YtklnlmebjeoidaaGreat.rimCorners

