
import Derived.Test.YtbfknjpggfkgjaaGreatRows
import Derived.WalkKit
import Derived.ProofKit
import Derived.OpenShut
import Derived.Test.YtbfknjpggfkgjaaGreatYLF1
import Derived.Test.YtbfknjpggfkgjaaGreatEngAE
set_option linter.all false
set_option exponentiation.threshold 3000
namespace Go.Proofs.YtbfknjpggfkgjaaGreat.fanSquares
open Go.Eng Go.ChangeShapes Go.WideShapes Go.ChangeAt Go.RowKit
set_option linter.all false
theorem own:ownKnob Tryz.prog.godebug=none:=by kernel_rfl
theorem walk (a0:Int) (a1:Int) (a2:Int) (w0:(Lit.int .u8 a0).wf=true) (w1:(Lit.int .u8 a1).wf=true) (w2:(Lit.int .u8 a2).wf=true) (w:World) :
  Calls Tryz.prog 5 (([.s (.int .u8 a0), .s (.int .u8 a1), .s (.int .u8 a2)]:List CV).map (CV.den vC)).toArray w fun e w'=>e= .returned (.bool true)∧Below w.heap.size w w':=by
 have b_a0:=bounds_u8 w0
 have b_a1:=bounds_u8 w1
 have b_a2:=bounds_u8 w2
 refine Bk (ags:=[]) (args:=[.s (.int .u8 a0), .s (.int .u8 a1), .s (.int .u8 a2)]) aoR (fun a ha=>by cases ha) (fun v hv ρ h=>?_) rfl (fun b hb=>?_)
 ·simp only[List.mem_cons,List.not_mem_nil,or_false] at hv
  rcases hv with rfl | rfl | rfl <;> rfl
 ·have hb:b∈[decide (0≤a0),decide (a0 < 256),decide (0≤a1),decide (a1 < 256),decide (0≤a2),decide (a2 < 256)]:=hb
  simp only[List.mem_cons,List.not_mem_nil,or_false] at hb
  rcases hb with rfl | rfl | rfl | rfl | rfl | rfl <;> (apply decide_eq_true;omega)
set_option maxRecDepth 100000 in
theorem lifted (os:Os) (started:os.Started) (H:Type) (enc:TypeId×Value→H) :
  ReturnsInHanded {} Tryz.checked os 5 .any (Rows.fanSquaresSpec.pre6 enc Tryz.prog Tryz.f5 Rows.fanSquaresRow.domain false) (Rows.fanSquaresSpec.post enc Tryz.prog Tryz.f5 false true false false):=by
 refine returnsInHanded_of_change (C:=Tryz.checked) own started (by kernel_rfl) Tryz.func5
  (ChangeSpec.witness6 (enc:=enc) (C:=Tryz.checked) false ⟨#[], #[.int .u8 0, .int .u8 0, .int .u8 0],[]⟩ 8 (by kernel_rfl) (by kernel_rfl) (by kernel_rfl) (by kernel_rfl)) ?_
 intro W base args ds gs before hval0 hW hcnd _
 have hval: ∀ (j:Nat) t v,Tryz.f5.params[j]? =some t→args[j]? =some v→Value.okWide Tryz.prog W .any base t v:=hval0
 have hW':=hW
 obtain⟨p,q,hA0,hV,rfl,hfz,hnd⟩:=hW
 have hA:DataW.TrodAll enc Tryz.prog W 0 (fun _=>true) true Tryz.f5.params.toList args.toList ds p:=hA0
 rw[Tryz.params5] at hA hval
 obtain⟨v0,vs0,d0,ds0,p0,q0,hargs,rfl,rfl,h0,r0⟩:=trodAll_cons hA
 obtain⟨v1,vs1,d1,ds1,p1,q1,rfl,rfl,rfl,h1,r1⟩:=trodAll_cons r0
 obtain⟨v2,vs2,d2,ds2,p2,q2,rfl,rfl,rfl,h2,r2⟩:=trodAll_cons r1
 obtain⟨rfl,rfl,rfl⟩:=trodAll_nil r2
 obtain rfl:args= #[v0,v1,v2]:=by cases args;simp_all
 obtain⟨rfl,rfl⟩:=trodVars_none hV
 obtain⟨a0,rfl,rfl,rfl,w0⟩:=open_int Tryz.underlying5 (hval 0 5 v0 rfl rfl) h0
 obtain⟨a1,rfl,rfl,rfl,w1⟩:=open_int Tryz.underlying5 (hval 1 5 v1 rfl rfl) h1
 obtain⟨a2,rfl,rfl,rfl,w2⟩:=open_int Tryz.underlying5 (hval 2 5 v2 rfl rfl) h2
 refine(walk a0 a1 a2 w0 w1 w2 W).mono fun e W' ⟨he,hg⟩=>?_
 subst he
 exact⟨_,rfl,GY hW' (by kernel_rfl) rfl Tryz.underlying4 rfl rfl hg⟩
theorem over:Rows.fanSquaresRow.holds Tryz.pinned (OpenSpec.ofChange Rows.fanSquaresSpec):=
 OpenClaim.holds_of_wide 5 Tryz.f5 rfl rfl rfl rfl rfl rfl rfl ⟨rfl,rfl,rfl,rfl,rfl⟩ rfl rfl rfl rfl rfl (by kernel_rfl) Tryz.func5 (by kernel_rfl)
  (of_decide_eq_true (by kernel_rfl)) (by unfold Func.isWrapper;first | (rw[if_pos (by decide +kernel)];kernel_rfl) | (rw[if_neg (by decide +kernel)];exact⟨rfl,rfl⟩))
  (fun os started H enc _=>lifted os started H enc)
theorem proved:Rows.FanSquaresSaid:=
 over
end Go.Proofs.YtbfknjpggfkgjaaGreat.fanSquares

