
import Derived.Test.YtdbmppedhaipoaaGreatRows
import Derived.WalkKit
import Derived.ProofKit
import Derived.OpenShut
import Derived.Test.YtdbmppedhaipoaaGreatZLE4
import Derived.Test.YtdbmppedhaipoaaGreatEngW
set_option linter.all false
set_option exponentiation.threshold 3000
namespace Go.Proofs.YtdbmppedhaipoaaGreat.touchAway
open Go.Eng Go.ChangeShapes Go.WideShapes Go.ChangeAt Go.RowKit
set_option linter.all false
theorem own:ownKnob Tryz.prog.godebug=none:=by kernel_rfl
theorem walk (x0 y0 z0:Int) (a1:Int) (a2:Int) (a3:Int) (a4:Int) (x0_:(Lit.int .i64 x0).wf=true) (y0_:(Lit.int .i64 y0).wf=true) (z0_:(Lit.int .i64 z0).wf=true) (w1:(Lit.int .i8 a1).wf=true) (w2:(Lit.int .i8 a2).wf=true) (w3:(Lit.int .i8 a3).wf=true) (w4:(Lit.int .u8 a4).wf=true) (w:World) :
  Calls Tryz.prog 6 (([.g [.s (.int .i64 x0), .s (.int .i64 y0), .s (.int .i64 z0)], .s (.int .i8 a1), .s (.int .i8 a2), .s (.int .i8 a3), .s (.int .u8 a4)]:List CV).map (CV.den vC)).toArray w fun e w'=>e= .returned (.bool true)∧Below w.heap.size w w':=by
 have b_x0:=bounds_i64 x0_
 have b_y0:=bounds_i64 y0_
 have b_z0:=bounds_i64 z0_
 have b_a1:=bounds_i8 w1
 have b_a2:=bounds_i8 w2
 have b_a3:=bounds_i8 w3
 have b_a4:=bounds_u8 w4
 refine VA (args:=[.g [.s (.int .i64 x0), .s (.int .i64 y0), .s (.int .i64 z0)], .s (.int .i8 a1), .s (.int .i8 a2), .s (.int .i8 a3), .s (.int .u8 a4)]) V1 (fun v hv ρ=>?_) rfl (fun b hb=>?_) w
 ·simp only[List.mem_cons,List.not_mem_nil,or_false] at hv
  rcases hv with rfl | rfl | rfl | rfl | rfl <;> rfl
 ·have hb:b∈[decide (-128≤a1),decide (a1 < 128),decide (-128≤a2),decide (a2 < 128),decide (-128≤a3),decide (a3 < 128),decide (0≤a4),decide (a4 < 256)]:=hb
  simp only[List.mem_cons,List.not_mem_nil,or_false] at hb
  rcases hb with rfl | rfl | rfl | rfl | rfl | rfl | rfl | rfl <;> (apply decide_eq_true;omega)
set_option maxRecDepth 100000 in
theorem lifted (os:Os) (started:os.Started) (H:Type) (enc:TypeId×Value→H) :
  ReturnsInHanded {} Tryz.checked os 6 .any (Rows.touchAwaySpec.pre6 enc Tryz.prog Tryz.f6 Rows.touchAwayRow.domain false) (Rows.touchAwaySpec.post enc Tryz.prog Tryz.f6 false true false false):=by
 refine returnsInHanded_of_change (C:=Tryz.checked) own started (by kernel_rfl) Tryz.func6
  (ChangeSpec.witness6 (enc:=enc) (C:=Tryz.checked) false ⟨#[], #[.agg #[.int .i64 0, .int .i64 0, .int .i64 0], .int .i8 0, .int .i8 0, .int .i8 0, .int .u8 0],[]⟩ 8 (by kernel_rfl) (by kernel_rfl) (by kernel_rfl) (by kernel_rfl)) ?_
 intro W base args ds gs before hval0 hW hcnd _
 have hval: ∀ (j:Nat) t v,Tryz.f6.params[j]? =some t→args[j]? =some v→Value.okWide Tryz.prog W .any base t v:=hval0
 have hW':=hW
 obtain⟨p,q,hA0,hV,rfl,hfz,hnd⟩:=hW
 have hA:DataW.TrodAll enc Tryz.prog W 0 (fun _=>true) true Tryz.f6.params.toList args.toList ds p:=hA0
 rw[Tryz.params6] at hA hval
 obtain⟨v0,vs0,d0,ds0,p0,q0,hargs,rfl,rfl,h0,r0⟩:=trodAll_cons hA
 obtain⟨v1,vs1,d1,ds1,p1,q1,rfl,rfl,rfl,h1,r1⟩:=trodAll_cons r0
 obtain⟨v2,vs2,d2,ds2,p2,q2,rfl,rfl,rfl,h2,r2⟩:=trodAll_cons r1
 obtain⟨v3,vs3,d3,ds3,p3,q3,rfl,rfl,rfl,h3,r3⟩:=trodAll_cons r2
 obtain⟨v4,vs4,d4,ds4,p4,q4,rfl,rfl,rfl,h4,r4⟩:=trodAll_cons r3
 obtain⟨rfl,rfl,rfl⟩:=trodAll_nil r4
 obtain rfl:args= #[v0,v1,v2,v3,v4]:=by cases args;simp_all
 obtain⟨rfl,rfl⟩:=trodVars_none hV
 obtain⟨x0,y0,z0,rfl,x0_,y0_,z0_⟩:=VS Tryz.underlying23 rfl (by kernel_rfl) (hval 0 23 v0 rfl rfl) h0
 obtain⟨a1,rfl,rfl,rfl,w1⟩:=open_int Tryz.underlying49 (hval 1 49 v1 rfl rfl) h1
 obtain⟨a2,rfl,rfl,rfl,w2⟩:=open_int Tryz.underlying49 (hval 2 49 v2 rfl rfl) h2
 obtain⟨a3,rfl,rfl,rfl,w3⟩:=open_int Tryz.underlying49 (hval 3 49 v3 rfl rfl) h3
 obtain⟨a4,rfl,rfl,rfl,w4⟩:=open_int Tryz.underlying5 (hval 4 5 v4 rfl rfl) h4
 refine(walk x0 y0 z0 a1 a2 a3 a4 x0_ y0_ z0_ w1 w2 w3 w4 W).mono fun e W' ⟨he,hg⟩=>?_
 subst he
 exact⟨_,rfl,GY hW' (by kernel_rfl) rfl Tryz.underlying4 rfl rfl hg⟩
theorem over:Rows.touchAwayRow.holds Tryz.pinned (OpenSpec.ofChange Rows.touchAwaySpec):=
 OpenClaim.holds_of_wide 6 Tryz.f6 rfl rfl rfl rfl rfl rfl rfl ⟨rfl,rfl,rfl,rfl,rfl⟩ rfl rfl rfl rfl rfl (by kernel_rfl) Tryz.func6 (by kernel_rfl)
  (of_decide_eq_true (by kernel_rfl)) (by unfold Func.isWrapper;first | (rw[if_pos (by decide +kernel)];kernel_rfl) | (rw[if_neg (by decide +kernel)];exact⟨rfl,rfl⟩))
  (fun os started H enc _=>lifted os started H enc)
theorem proved:Rows.TouchAwaySaid:=
 over
end Go.Proofs.YtdbmppedhaipoaaGreat.touchAway

