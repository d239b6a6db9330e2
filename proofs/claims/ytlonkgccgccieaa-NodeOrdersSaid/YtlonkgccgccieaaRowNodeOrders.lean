
import Derived.Test.YtlonkgccgccieaaRows
import Derived.WalkKit
import Derived.ProofKit
import Derived.OpenShut
import Derived.Test.YtlonkgccgccieaaLN2
import Derived.Test.YtlonkgccgccieaaEngAE
set_option linter.all false
set_option exponentiation.threshold 3000
namespace Go.Proofs.Ytlonkgccgccieaa.nodeOrders
open Go.Eng Go.ChangeShapes Go.WideShapes Go.ChangeAt Go.RowKit
set_option linter.all false
theorem own:ownKnob Try.prog.godebug=none:=by kernel_rfl
theorem walk (w:World) (v0_:Value) (a0:List Pt) (a1:Int) (w1:(Lit.int .u8 a1).wf=true) (s0:SlP .pt w v0_ a0) :
  Calls Try.prog 9 (([.s (.hs 0), .s (.int .u8 a1)]:List CV).map (CV.den (Cb [⟨v0_, .pt,a0⟩]))).toArray w fun e w'=>e= .returned (.bool true)∧Below w.heap.size w w':=by
 have b_a1:=bounds_u8 w1
 refine Bk (ags:=[⟨v0_, .pt,a0⟩]) (args:=[.s (.hs 0), .s (.int .u8 a1)]) aiU (fun a ha=>?_) (fun v hv ρ h=>?_) rfl (fun b hb=>?_)
 ·simp only[List.mem_cons,List.not_mem_nil,or_false] at ha
  rcases ha with rfl
  ·exact s0
 ·have hh: ∀ i,i < 1→ρ i=Cb [⟨v0_, .pt,a0⟩] i:=fun i hi=>h i hi
  simp only[List.mem_cons,List.not_mem_nil,or_false] at hv
  rcases hv with rfl | rfl
  ·simp only[CV.den,Sc.den,aI,At.cells,hh 0 (by decide)]
  ·rfl
 ·have hb:b∈[decide (0≤a1),decide (a1 < 256)]:=hb
  simp only[List.mem_cons,List.not_mem_nil,or_false] at hb
  rcases hb with rfl | rfl
  ·apply decide_eq_true;omega
  ·apply decide_eq_true;omega
set_option maxRecDepth 100000 in
theorem lifted (os:Os) (started:os.Started) (H:Type) (enc:TypeId×Value→H) :
  ReturnsInHanded {} Try.checked os 9 .any (Rows.nodeOrdersSpec.pre6 enc Try.prog Try.f9 Rows.nodeOrdersRow.domain false) (Rows.nodeOrdersSpec.post enc Try.prog Try.f9 false true false false):=by
 refine returnsInHanded_of_change (C:=Try.checked) own started (by kernel_rfl) Try.func9
  (ChangeSpec.witness6 (enc:=enc) (C:=Try.checked) false ⟨#[], #[.slice none 0 0, .int .u8 0],[]⟩ 8 (by kernel_rfl) (by kernel_rfl) (by kernel_rfl) (by kernel_rfl)) ?_
 intro W base args ds gs before hval0 hW hcnd _
 have hval: ∀ (j:Nat) t v,Try.f9.params[j]? =some t→args[j]? =some v→Value.okWide Try.prog W .any base t v:=hval0
 have hW':=hW
 obtain⟨p,q,hA0,hV,rfl,hfz,hnd⟩:=hW
 have hA:DataW.TrodAll enc Try.prog W 0 (fun _=>true) true Try.f9.params.toList args.toList ds p:=hA0
 rw[Try.params9] at hA hval
 obtain⟨v0,vs0,d0,ds0,p0,q0,hargs,rfl,rfl,h0,r0⟩:=trodAll_cons hA
 obtain⟨v1,vs1,d1,ds1,p1,q1,rfl,rfl,rfl,h1,r1⟩:=trodAll_cons r0
 obtain⟨rfl,rfl,rfl⟩:=trodAll_nil r1
 obtain rfl:args= #[v0,v1]:=by cases args;simp_all
 obtain⟨rfl,rfl⟩:=trodVars_none hV
 obtain⟨a0,s0,q0⟩:=aeV (k:= .pt) Try.underlying53 (by kernel_rfl) (by kernel_rfl) IV (hval 0 53 v0 rfl rfl) h0
 obtain⟨a1,rfl,rfl,rfl,w1⟩:=open_int Try.underlying5 (hval 1 5 v1 rfl rfl) h1
 have hwk:=walk W v0 a0 a1 w1 s0
 refine Calls.mono hwk fun e W' ⟨he,hg⟩=>?_
 subst he
 exact⟨_,rfl,GY hW' (by kernel_rfl) rfl Try.underlying4 rfl rfl hg⟩
theorem over:Rows.nodeOrdersRow.holds Try.pinned (OpenSpec.ofChange Rows.nodeOrdersSpec):=
 OpenClaim.holds_of_wide 9 Try.f9 rfl rfl rfl rfl rfl rfl rfl ⟨rfl,rfl,rfl,rfl,rfl⟩ rfl rfl rfl rfl rfl (by kernel_rfl) Try.func9 (by kernel_rfl)
  (of_decide_eq_true (by kernel_rfl)) (by unfold Func.isWrapper;first | (rw[if_pos (by decide +kernel)];kernel_rfl) | (rw[if_neg (by decide +kernel)];exact⟨rfl,rfl⟩))
  (fun os started H enc _=>lifted os started H enc)
theorem proved:Rows.NodeOrdersSaid:=
 over
end Go.Proofs.Ytlonkgccgccieaa.nodeOrders

