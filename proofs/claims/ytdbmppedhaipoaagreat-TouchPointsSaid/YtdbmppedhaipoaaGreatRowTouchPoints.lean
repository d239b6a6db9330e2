
import Derived.Test.YtdbmppedhaipoaaGreatRows
import Derived.WalkKit
import Derived.ProofKit
import Derived.OpenShut
import Derived.Test.YtdbmppedhaipoaaGreatZLE3
import Derived.Test.YtdbmppedhaipoaaGreatEngW
set_option linter.all false
set_option exponentiation.threshold 3000
namespace Go.Proofs.YtdbmppedhaipoaaGreat.touchPoints
open Go.Eng Go.ChangeShapes Go.WideShapes Go.ChangeAt Go.RowKit
set_option linter.all false
theorem own:ownKnob Tryz.prog.godebug=none:=by kernel_rfl
theorem walk (a0:Int) (a1:Int) (a2:Int) (a3:Int) (a4:Int) (a5:Int) (x6 y6 z6:Int) (w0:(Lit.int .i8 a0).wf=true) (w1:(Lit.int .i8 a1).wf=true) (w2:(Lit.int .i8 a2).wf=true) (w3:(Lit.int .i8 a3).wf=true) (w4:(Lit.int .u8 a4).wf=true) (w5:(Lit.int .u8 a5).wf=true) (x6_:(Lit.int .i64 x6).wf=true) (y6_:(Lit.int .i64 y6).wf=true) (z6_:(Lit.int .i64 z6).wf=true) (w:World) :
  Calls Tryz.prog 5 (([.s (.int .i8 a0), .s (.int .i8 a1), .s (.int .i8 a2), .s (.int .i8 a3), .s (.int .u8 a4), .s (.int .u8 a5), .g [.s (.int .i64 x6), .s (.int .i64 y6), .s (.int .i64 z6)]]:List CV).map (CV.den vC)).toArray w fun e w'=>e= .returned (.bool true)∧Below w.heap.size w w':=by
 have b_a0:=bounds_i8 w0
 have b_a1:=bounds_i8 w1
 have b_a2:=bounds_i8 w2
 have b_a3:=bounds_i8 w3
 have b_a4:=bounds_u8 w4
 have b_a5:=bounds_u8 w5
 have b_x6:=bounds_i64 x6_
 have b_y6:=bounds_i64 y6_
 have b_z6:=bounds_i64 z6_
 refine VA (args:=[.s (.int .i8 a0), .s (.int .i8 a1), .s (.int .i8 a2), .s (.int .i8 a3), .s (.int .u8 a4), .s (.int .u8 a5), .g [.s (.int .i64 x6), .s (.int .i64 y6), .s (.int .i64 z6)]]) VE (fun v hv ρ=>?_) rfl (fun b hb=>?_) w
 ·simp only[List.mem_cons,List.not_mem_nil,or_false] at hv
  rcases hv with rfl | rfl | rfl | rfl | rfl | rfl | rfl <;> rfl
 ·have hb:b∈[decide (-128≤a0),decide (a0 < 128),decide (-128≤a1),decide (a1 < 128),decide (-128≤a2),decide (a2 < 128),decide (-128≤a3),decide (a3 < 128),decide (0≤a4),decide (a4 < 256),decide (0≤a5),decide (a5 < 256)]:=hb
  simp only[List.mem_cons,List.not_mem_nil,or_false] at hb
  rcases hb with rfl | rfl | rfl | rfl | rfl | rfl | rfl | rfl | rfl | rfl | rfl | rfl <;> (apply decide_eq_true;omega)
set_option maxRecDepth 100000 in
theorem lifted (os:Os) (started:os.Started) (H:Type) (enc:TypeId×Value→H) :
  ReturnsInHanded {} Tryz.checked os 5 .any (Rows.touchPointsSpec.pre6 enc Tryz.prog Tryz.f5 Rows.touchPointsRow.domain false) (Rows.touchPointsSpec.post enc Tryz.prog Tryz.f5 false true false false):=by
 refine returnsInHanded_of_change (C:=Tryz.checked) own started (by kernel_rfl) Tryz.func5
  (ChangeSpec.witness6 (enc:=enc) (C:=Tryz.checked) false ⟨#[], #[.int .i8 0, .int .i8 0, .int .i8 0, .int .i8 0, .int .u8 0, .int .u8 0, .agg #[.int .i64 0, .int .i64 0, .int .i64 0]],[]⟩ 8 (by kernel_rfl) (by kernel_rfl) (by kernel_rfl) (by kernel_rfl)) ?_
 intro W base args ds gs before hval0 hW hcnd _
 have hval: ∀ (j:Nat) t v,Tryz.f5.params[j]? =some t→args[j]? =some v→Value.okWide Tryz.prog W .any base t v:=hval0
 have hW':=hW
 obtain⟨p,q,hA0,hV,rfl,hfz,hnd⟩:=hW
 have hA:DataW.TrodAll enc Tryz.prog W 0 (fun _=>true) true Tryz.f5.params.toList args.toList ds p:=hA0
 rw[Tryz.params5] at hA hval
 obtain⟨v0,vs0,d0,ds0,p0,q0,hargs,rfl,rfl,h0,r0⟩:=trodAll_cons hA
 obtain⟨v1,vs1,d1,ds1,p1,q1,rfl,rfl,rfl,h1,r1⟩:=trodAll_cons r0
 obtain⟨v2,vs2,d2,ds2,p2,q2,rfl,rfl,rfl,h2,r2⟩:=trodAll_cons r1
 obtain⟨v3,vs3,d3,ds3,p3,q3,rfl,rfl,rfl,h3,r3⟩:=trodAll_cons r2
 obtain⟨v4,vs4,d4,ds4,p4,q4,rfl,rfl,rfl,h4,r4⟩:=trodAll_cons r3
 obtain⟨v5,vs5,d5,ds5,p5,q5,rfl,rfl,rfl,h5,r5⟩:=trodAll_cons r4
 obtain⟨v6,vs6,d6,ds6,p6,q6,rfl,rfl,rfl,h6,r6⟩:=trodAll_cons r5
 obtain⟨rfl,rfl,rfl⟩:=trodAll_nil r6
 obtain rfl:args= #[v0,v1,v2,v3,v4,v5,v6]:=by cases args;simp_all
 obtain⟨rfl,rfl⟩:=trodVars_none hV
 obtain⟨a0,rfl,rfl,rfl,w0⟩:=open_int Tryz.underlying49 (hval 0 49 v0 rfl rfl) h0
 obtain⟨a1,rfl,rfl,rfl,w1⟩:=open_int Tryz.underlying49 (hval 1 49 v1 rfl rfl) h1
 obtain⟨a2,rfl,rfl,rfl,w2⟩:=open_int Tryz.underlying49 (hval 2 49 v2 rfl rfl) h2
 obtain⟨a3,rfl,rfl,rfl,w3⟩:=open_int Tryz.underlying49 (hval 3 49 v3 rfl rfl) h3
 obtain⟨a4,rfl,rfl,rfl,w4⟩:=open_int Tryz.underlying5 (hval 4 5 v4 rfl rfl) h4
 obtain⟨a5,rfl,rfl,rfl,w5⟩:=open_int Tryz.underlying5 (hval 5 5 v5 rfl rfl) h5
 obtain⟨x6,y6,z6,rfl,x6_,y6_,z6_⟩:=VS Tryz.underlying23 rfl (by kernel_rfl) (hval 6 23 v6 rfl rfl) h6
 refine(walk a0 a1 a2 a3 a4 a5 x6 y6 z6 w0 w1 w2 w3 w4 w5 x6_ y6_ z6_ W).mono fun e W' ⟨he,hg⟩=>?_
 subst he
 exact⟨_,rfl,GY hW' (by kernel_rfl) rfl Tryz.underlying4 rfl rfl hg⟩
theorem over:Rows.touchPointsRow.holds Tryz.pinned (OpenSpec.ofChange Rows.touchPointsSpec):=
 OpenClaim.holds_of_wide 5 Tryz.f5 rfl rfl rfl rfl rfl rfl rfl ⟨rfl,rfl,rfl,rfl,rfl⟩ rfl rfl rfl rfl rfl (by kernel_rfl) Tryz.func5 (by kernel_rfl)
  (of_decide_eq_true (by kernel_rfl)) (by unfold Func.isWrapper;first | (rw[if_pos (by decide +kernel)];kernel_rfl) | (rw[if_neg (by decide +kernel)];exact⟨rfl,rfl⟩))
  (fun os started H enc _=>lifted os started H enc)
theorem proved:Rows.TouchPointsSaid:=
 over
end Go.Proofs.YtdbmppedhaipoaaGreat.touchPoints

