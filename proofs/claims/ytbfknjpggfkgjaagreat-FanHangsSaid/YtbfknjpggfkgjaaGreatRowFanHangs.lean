
import Derived.Test.YtbfknjpggfkgjaaGreatRows
import Derived.WalkKit
import Derived.ProofKit
import Derived.OpenShut
import Derived.Test.YtbfknjpggfkgjaaGreatYLF2
import Derived.Test.YtbfknjpggfkgjaaGreatEngAE
set_option linter.all false
set_option exponentiation.threshold 3000
namespace Go.Proofs.YtbfknjpggfkgjaaGreat.fanHangs
open Go.Eng Go.ChangeShapes Go.WideShapes Go.ChangeAt Go.RowKit
set_option linter.all false
theorem own:ownKnob Tryz.prog.godebug=none:=by kernel_rfl
theorem walk (a0:Int) (a1:Bool) (w0:(Lit.int .u8 a0).wf=true) (w:World) :
  Calls Tryz.prog 6 (([.s (.int .u8 a0), .s (.bool a1)]:List CV).map (CV.den vC)).toArray w fun e w'=>e= .returned (.bool true)∧Below w.heap.size w w':=by
 have b_a0:=bounds_u8 w0
 refine Bk (ags:=[]) (args:=[.s (.int .u8 a0), .s (.bool a1)]) aoQ (fun a ha=>by cases ha) (fun v hv ρ h=>?_) rfl (fun b hb=>?_)
 ·simp only[List.mem_cons,List.not_mem_nil,or_false] at hv
  rcases hv with rfl | rfl <;> rfl
 ·have hb:b∈[decide (0≤a0),decide (a0 < 256)]:=hb
  simp only[List.mem_cons,List.not_mem_nil,or_false] at hb
  rcases hb with rfl | rfl <;> (apply decide_eq_true;omega)
set_option maxRecDepth 100000 in
theorem lifted (os:Os) (started:os.Started) (H:Type) (enc:TypeId×Value→H) :
  ReturnsInHanded {} Tryz.checked os 6 .any (Rows.fanHangsSpec.pre6 enc Tryz.prog Tryz.f6 Rows.fanHangsRow.domain false) (Rows.fanHangsSpec.post enc Tryz.prog Tryz.f6 false true false false):=by
 refine returnsInHanded_of_change (C:=Tryz.checked) own started (by kernel_rfl) Tryz.func6
  (ChangeSpec.witness6 (enc:=enc) (C:=Tryz.checked) false ⟨#[], #[.int .u8 0, .bool false],[]⟩ 8 (by kernel_rfl) (by kernel_rfl) (by kernel_rfl) (by kernel_rfl)) ?_
 intro W base args ds gs before hval0 hW hcnd _
 have hval: ∀ (j:Nat) t v,Tryz.f6.params[j]? =some t→args[j]? =some v→Value.okWide Tryz.prog W .any base t v:=hval0
 have hW':=hW
 obtain⟨p,q,hA0,hV,rfl,hfz,hnd⟩:=hW
 have hA:DataW.TrodAll enc Tryz.prog W 0 (fun _=>true) true Tryz.f6.params.toList args.toList ds p:=hA0
 rw[Tryz.params6] at hA hval
 obtain⟨v0,vs0,d0,ds0,p0,q0,hargs,rfl,rfl,h0,r0⟩:=trodAll_cons hA
 obtain⟨v1,vs1,d1,ds1,p1,q1,rfl,rfl,rfl,h1,r1⟩:=trodAll_cons r0
 obtain⟨rfl,rfl,rfl⟩:=trodAll_nil r1
 obtain rfl:args= #[v0,v1]:=by cases args;simp_all
 obtain⟨rfl,rfl⟩:=trodVars_none hV
 obtain⟨a0,rfl,rfl,rfl,w0⟩:=open_int Tryz.underlying5 (hval 0 5 v0 rfl rfl) h0
 obtain⟨a1,rfl,rfl,rfl⟩:=open_bool Tryz.underlying4 (hval 1 4 v1 rfl rfl) h1
 refine(walk a0 a1 w0 W).mono fun e W' ⟨he,hg⟩=>?_
 subst he
 exact⟨_,rfl,GY hW' (by kernel_rfl) rfl Tryz.underlying4 rfl rfl hg⟩
theorem over:Rows.fanHangsRow.holds Tryz.pinned (OpenSpec.ofChange Rows.fanHangsSpec):=
 OpenClaim.holds_of_wide 6 Tryz.f6 rfl rfl rfl rfl rfl rfl rfl ⟨rfl,rfl,rfl,rfl,rfl⟩ rfl rfl rfl rfl rfl (by kernel_rfl) Tryz.func6 (by kernel_rfl)
  (of_decide_eq_true (by kernel_rfl)) (by unfold Func.isWrapper;first | (rw[if_pos (by decide +kernel)];kernel_rfl) | (rw[if_neg (by decide +kernel)];exact⟨rfl,rfl⟩))
  (fun os started H enc _=>lifted os started H enc)
theorem proved:Rows.FanHangsSaid:=
 over
end Go.Proofs.YtbfknjpggfkgjaaGreat.fanHangs

