
import Derived.Test.YtklnlmebjeoidaaGreatRows
import Derived.WalkKit
import Derived.ProofKit
import Derived.OpenShut
import Derived.Test.YtklnlmebjeoidaaGreatYLH2
import Derived.Test.YtklnlmebjeoidaaGreatEngAE
set_option linter.all false
set_option exponentiation.threshold 3000
namespace Go.Proofs.YtklnlmebjeoidaaGreat.rimSides
open Go.Eng Go.ChangeShapes Go.WideShapes Go.ChangeAt Go.RowKit
set_option linter.all false
theorem own:ownKnob Tryz.prog.godebug=none:=by kernel_rfl
def wit0:Wd:=⟨false,Dg.zero⟩
theorem walk (w:World) (a0:Pt) (a1:Pt) (v2_:Value) (a2:List Pt) (s2:SlP .pt w v2_ a2) :
  Calls Tryz.prog 4 (([.g [.P a0], .g [.P a1], .s (.hs 0)]:List CV).map (CV.den (Cb [⟨v2_, .pt,a2⟩]))).toArray w fun e w'=>e= .returned (.bool true)∧Below w.heap.size w w':=by
 refine Bk (ags:=[⟨v2_, .pt,a2⟩]) (args:=[.g [.P a0], .g [.P a1], .s (.hs 0)]) agM (fun a ha=>?_) (fun v hv ρ h=>?_) rfl (fun b hb=>?_)
 ·simp only[List.mem_cons,List.not_mem_nil,or_false] at ha
  rcases ha with rfl
  ·exact s2
 ·have hh: ∀ i,i < 1→ρ i=Cb [⟨v2_, .pt,a2⟩] i:=fun i hi=>h i hi
  simp only[List.mem_cons,List.not_mem_nil,or_false] at hv
  rcases hv with rfl | rfl | rfl
  ·rfl
  ·rfl
  ·simp only[CV.den,Sc.den,aI,At.cells,hh 0 (by decide)]
 ·cases hb
set_option maxRecDepth 100000 in
theorem lifted (os:Os) (started:os.Started) (H:Type) (enc:TypeId×Value→H) :
  ReturnsInHanded {} Tryz.checked os 4 .any (Rows.rimSidesSpec.pre6 enc Tryz.prog Tryz.f4 Rows.rimSidesRow.domain false) (Rows.rimSidesSpec.post enc Tryz.prog Tryz.f4 false true false false):=by
 refine returnsInHanded_of_change (C:=Tryz.checked) own started (by kernel_rfl) Tryz.func4
  (ChangeSpec.witness6 (enc:=enc) (C:=Tryz.checked) false ⟨#[], #[(CV.g [.P ⟨⟨wit0,wit0⟩,⟨wit0,wit0⟩⟩]).den vC,(CV.g [.P ⟨⟨wit0,wit0⟩,⟨wit0,wit0⟩⟩]).den vC, .slice none 0 0],[]⟩ 8 (by kernel_rfl) (by kernel_rfl) (by kernel_rfl) (by kernel_rfl)) ?_
 intro W base args ds gs before hval0 hW hcnd _
 have hval: ∀ (j:Nat) t v,Tryz.f4.params[j]? =some t→args[j]? =some v→Value.okWide Tryz.prog W .any base t v:=hval0
 have hW':=hW
 obtain⟨p,q,hA0,hV,rfl,hfz,hnd⟩:=hW
 have hA:DataW.TrodAll enc Tryz.prog W 0 (fun _=>true) true Tryz.f4.params.toList args.toList ds p:=hA0
 rw[Tryz.params4] at hA hval
 obtain⟨v0,vs0,d0,ds0,p0,q0,hargs,rfl,rfl,h0,r0⟩:=trodAll_cons hA
 obtain⟨v1,vs1,d1,ds1,p1,q1,rfl,rfl,rfl,h1,r1⟩:=trodAll_cons r0
 obtain⟨v2,vs2,d2,ds2,p2,q2,rfl,rfl,rfl,h2,r2⟩:=trodAll_cons r1
 obtain⟨rfl,rfl,rfl⟩:=trodAll_nil r2
 obtain rfl:args= #[v0,v1,v2]:=by cases args;simp_all
 obtain⟨rfl,rfl⟩:=trodVars_none hV
 obtain⟨a0,rfl⟩:=Wn Tryz.underlying32 rfl (by kernel_rfl) (hval 0 32 v0 rfl rfl) h0
 obtain⟨a1,rfl⟩:=Wn Tryz.underlying32 rfl (by kernel_rfl) (hval 1 32 v1 rfl rfl) h1
 obtain⟨a2,s2,q2⟩:=aeV (k:= .pt) Tryz.underlying30 (by kernel_rfl) (by kernel_rfl) IV (hval 2 30 v2 rfl rfl) h2
 have hwk:=walk W a0 a1 v2 a2 s2
 refine Calls.mono hwk fun e W' ⟨he,hg⟩=>?_
 subst he
 exact⟨_,rfl,GY hW' (by kernel_rfl) rfl Tryz.underlying4 rfl rfl hg⟩
theorem over:Rows.rimSidesRow.holds Tryz.pinned (OpenSpec.ofChange Rows.rimSidesSpec):=
 OpenClaim.holds_of_wide 4 Tryz.f4 rfl rfl rfl rfl rfl rfl rfl ⟨rfl,rfl,rfl,rfl,rfl⟩ rfl rfl rfl rfl rfl (by kernel_rfl) Tryz.func4 (by kernel_rfl)
  (of_decide_eq_true (by kernel_rfl)) (by unfold Func.isWrapper;first | (rw[if_pos (by decide +kernel)];kernel_rfl) | (rw[if_neg (by decide +kernel)];exact⟨rfl,rfl⟩))
  (fun os started H enc _=>lifted os started H enc)
theorem proved:Rows.RimSidesSaid:=
 over
end Go.Proofs.YtklnlmebjeoidaaGreat.rimSides

