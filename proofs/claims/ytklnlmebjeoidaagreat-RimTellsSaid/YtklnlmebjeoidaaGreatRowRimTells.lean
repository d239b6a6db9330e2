
import Derived.Test.YtklnlmebjeoidaaGreatRows
import Derived.WalkKit
import Derived.ProofKit
import Derived.OpenShut
import Derived.Test.YtklnlmebjeoidaaGreatYLH1
import Derived.Test.YtklnlmebjeoidaaGreatEngAE
import Derived.Test.YtklnlmebjeoidaaGreatEngAH
set_option linter.all false
set_option exponentiation.threshold 3000
namespace Go.Proofs.YtklnlmebjeoidaaGreat.rimTells
open Go.Eng Go.ChangeShapes Go.WideShapes Go.ChangeAt Go.RowKit
set_option linter.all false
theorem own:ownKnob Tryz.prog.godebug=none:=by kernel_rfl
def wit0:Wd:=⟨false,Dg.zero⟩
theorem walk (w:World) (u0 v0 w0:Pt) (v1_:Value) (a1:List Pt) (a2:Pt) (a3:Pt) (s1:SlP .pt w v1_ a1) :
  Calls Tryz.prog 3 (([.g [.P u0, .P v0, .P w0], .s (.hs 0), .g [.P a2], .g [.P a3]]:List CV).map (CV.den (Cb [⟨v1_, .pt,a1⟩]))).toArray w fun e w'=>e= .returned (.bool true)∧Below w.heap.size w w':=by
 refine Bk (ags:=[⟨v1_, .pt,a1⟩]) (args:=[.g [.P u0, .P v0, .P w0], .s (.hs 0), .g [.P a2], .g [.P a3]]) acL (fun a ha=>?_) (fun v hv ρ h=>?_) rfl (fun b hb=>?_)
 ·simp only[List.mem_cons,List.not_mem_nil,or_false] at ha
  rcases ha with rfl
  ·exact s1
 ·have hh: ∀ i,i < 1→ρ i=Cb [⟨v1_, .pt,a1⟩] i:=fun i hi=>h i hi
  simp only[List.mem_cons,List.not_mem_nil,or_false] at hv
  rcases hv with rfl | rfl | rfl | rfl
  ·rfl
  ·simp only[CV.den,Sc.den,aI,At.cells,hh 0 (by decide)]
  ·rfl
  ·rfl
 ·cases hb
set_option maxRecDepth 100000 in
theorem lifted (os:Os) (started:os.Started) (H:Type) (enc:TypeId×Value→H) :
  ReturnsInHanded {} Tryz.checked os 3 .any (Rows.rimTellsSpec.pre6 enc Tryz.prog Tryz.f3 Rows.rimTellsRow.domain false) (Rows.rimTellsSpec.post enc Tryz.prog Tryz.f3 false true false false):=by
 refine returnsInHanded_of_change (C:=Tryz.checked) own started (by kernel_rfl) Tryz.func3
  (ChangeSpec.witness6 (enc:=enc) (C:=Tryz.checked) false ⟨#[], #[(CV.g [.P ⟨⟨wit0,wit0⟩,⟨wit0,wit0⟩⟩, .P ⟨⟨wit0,wit0⟩,⟨wit0,wit0⟩⟩, .P ⟨⟨wit0,wit0⟩,⟨wit0,wit0⟩⟩]).den vC, .slice none 0 0,(CV.g [.P ⟨⟨wit0,wit0⟩,⟨wit0,wit0⟩⟩]).den vC,(CV.g [.P ⟨⟨wit0,wit0⟩,⟨wit0,wit0⟩⟩]).den vC],[]⟩ 8 (by kernel_rfl) (by kernel_rfl) (by kernel_rfl) (by kernel_rfl)) ?_
 intro W base args ds gs before hval0 hW hcnd _
 have hval: ∀ (j:Nat) t v,Tryz.f3.params[j]? =some t→args[j]? =some v→Value.okWide Tryz.prog W .any base t v:=hval0
 have hW':=hW
 obtain⟨p,q,hA0,hV,rfl,hfz,hnd⟩:=hW
 have hA:DataW.TrodAll enc Tryz.prog W 0 (fun _=>true) true Tryz.f3.params.toList args.toList ds p:=hA0
 rw[Tryz.params3] at hA hval
 obtain⟨v0,vs0,d0,ds0,p0,q0,hargs,rfl,rfl,h0,r0⟩:=trodAll_cons hA
 obtain⟨v1,vs1,d1,ds1,p1,q1,rfl,rfl,rfl,h1,r1⟩:=trodAll_cons r0
 obtain⟨v2,vs2,d2,ds2,p2,q2,rfl,rfl,rfl,h2,r2⟩:=trodAll_cons r1
 obtain⟨v3,vs3,d3,ds3,p3,q3,rfl,rfl,rfl,h3,r3⟩:=trodAll_cons r2
 obtain⟨rfl,rfl,rfl⟩:=trodAll_nil r3
 obtain rfl:args= #[v0,v1,v2,v3]:=by cases args;simp_all
 obtain⟨rfl,rfl⟩:=trodVars_none hV
 obtain⟨u0,v0,w0,rfl⟩:=aeW Tryz.underlying29 rfl (by kernel_rfl) (hval 0 29 v0 rfl rfl) h0
 obtain⟨a1,s1,q1⟩:=aeV (k:= .pt) Tryz.underlying30 (by kernel_rfl) (by kernel_rfl) IV (hval 1 30 v1 rfl rfl) h1
 obtain⟨a2,rfl⟩:=Wn Tryz.underlying32 rfl (by kernel_rfl) (hval 2 32 v2 rfl rfl) h2
 obtain⟨a3,rfl⟩:=Wn Tryz.underlying32 rfl (by kernel_rfl) (hval 3 32 v3 rfl rfl) h3
 have hwk:=walk W u0 v0 w0 v1 a1 a2 a3 s1
 refine Calls.mono hwk fun e W' ⟨he,hg⟩=>?_
 subst he
 exact⟨_,rfl,GY hW' (by kernel_rfl) rfl Tryz.underlying4 rfl rfl hg⟩
theorem over:Rows.rimTellsRow.holds Tryz.pinned (OpenSpec.ofChange Rows.rimTellsSpec):=
 OpenClaim.holds_of_wide 3 Tryz.f3 rfl rfl rfl rfl rfl rfl rfl ⟨rfl,rfl,rfl,rfl,rfl⟩ rfl rfl rfl rfl rfl (by kernel_rfl) Tryz.func3 (by kernel_rfl)
  (of_decide_eq_true (by kernel_rfl)) (by unfold Func.isWrapper;first | (rw[if_pos (by decide +kernel)];kernel_rfl) | (rw[if_neg (by decide +kernel)];exact⟨rfl,rfl⟩))
  (fun os started H enc _=>lifted os started H enc)
theorem proved:Rows.RimTellsSaid:=
 over
end Go.Proofs.YtklnlmebjeoidaaGreat.rimTells

