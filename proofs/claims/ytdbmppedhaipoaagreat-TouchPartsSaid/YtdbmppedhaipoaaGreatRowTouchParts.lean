
import Derived.Test.YtdbmppedhaipoaaGreatRows
import Derived.WalkKit
import Derived.ProofKit
import Derived.OpenShut
import Derived.Test.YtdbmppedhaipoaaGreatZLE2
import Derived.Test.YtdbmppedhaipoaaGreatEngW
set_option linter.all false
set_option exponentiation.threshold 3000
namespace Go.Proofs.YtdbmppedhaipoaaGreat.touchParts
open Go.Eng Go.ChangeShapes Go.WideShapes Go.ChangeAt Go.RowKit
set_option linter.all false
theorem own:ownKnob Tryz.prog.godebug=none:=by kernel_rfl
def wit0:Wd:=⟨false,Dg.zero⟩
theorem walk (x0 y0 z0:Int) (a1:Pt) (a2:Pt) (x0_:(Lit.int .i64 x0).wf=true) (y0_:(Lit.int .i64 y0).wf=true) (z0_:(Lit.int .i64 z0).wf=true) (w:World) :
  Calls Tryz.prog 4 (([.g [.s (.int .i64 x0), .s (.int .i64 y0), .s (.int .i64 z0)], .g [.P a1], .g [.P a2]]:List CV).map (CV.den vC)).toArray w fun e w'=>e= .returned (.bool true)∧Below w.heap.size w w':=by
 have b_x0:=bounds_i64 x0_
 have b_y0:=bounds_i64 y0_
 have b_z0:=bounds_i64 z0_
 refine VA (args:=[.g [.s (.int .i64 x0), .s (.int .i64 y0), .s (.int .i64 z0)], .g [.P a1], .g [.P a2]]) VP (fun v hv ρ=>?_) rfl (fun b hb=>?_) w
 ·simp only[List.mem_cons,List.not_mem_nil,or_false] at hv
  rcases hv with rfl | rfl | rfl <;> rfl
 ·cases hb
set_option maxRecDepth 100000 in
theorem lifted (os:Os) (started:os.Started) (H:Type) (enc:TypeId×Value→H) :
  ReturnsInHanded {} Tryz.checked os 4 .any (Rows.touchPartsSpec.pre6 enc Tryz.prog Tryz.f4 Rows.touchPartsRow.domain false) (Rows.touchPartsSpec.post enc Tryz.prog Tryz.f4 false true false false):=by
 refine returnsInHanded_of_change (C:=Tryz.checked) own started (by kernel_rfl) Tryz.func4
  (ChangeSpec.witness6 (enc:=enc) (C:=Tryz.checked) false ⟨#[], #[.agg #[.int .i64 0, .int .i64 0, .int .i64 0],(CV.g [.P ⟨⟨wit0,wit0⟩,⟨wit0,wit0⟩⟩]).den vC,(CV.g [.P ⟨⟨wit0,wit0⟩,⟨wit0,wit0⟩⟩]).den vC],[]⟩ 8 (by kernel_rfl) (by kernel_rfl) (by kernel_rfl) (by kernel_rfl)) ?_
 intro W base args ds gs before hval0 hW hcnd _
 have hval: ∀ (j:Nat) t v,Tryz.f4.params[j]? =some t→args[j]? =some v→Value.okWide Tryz.prog W .any base t v:=hval0
 have hW':=hW
 obtain⟨p,q,hA0,hV,rfl,hfz,hnd⟩:=hW
 have hA:DataW.TrodAll enc Tryz.prog W 0 (fun _=>true) true Tryz.f4.params.toList args.toList ds p:=hA0
 rw[Tryz.params4] at hA hval
 obtain⟨v0,vs0,d0,ds0,p0,q0,hargs,rfl,rfl,h0,r0⟩:=trodAll_cons hA
 obtain⟨v1,vs1,d1,ds1,p1,q1,rfl,rfl,rfl,h1,r1⟩:=trodAll_cons r0
 obtain⟨v2,vs2,d2,ds2,p2,q2,rfl,rfl,rfl,h2,r2⟩:=trodAll_cons r1
 obtain⟨rfl,rfl,rfl⟩:=trodAll_nil r2
 obtain rfl:args= #[v0,v1,v2]:=by cases args;simp_all
 obtain⟨rfl,rfl⟩:=trodVars_none hV
 obtain⟨x0,y0,z0,rfl,x0_,y0_,z0_⟩:=VS Tryz.underlying23 rfl (by kernel_rfl) (hval 0 23 v0 rfl rfl) h0
 obtain⟨a1,rfl⟩:=Wn Tryz.underlying31 rfl (by kernel_rfl) (hval 1 31 v1 rfl rfl) h1
 obtain⟨a2,rfl⟩:=Wn Tryz.underlying31 rfl (by kernel_rfl) (hval 2 31 v2 rfl rfl) h2
 refine(walk x0 y0 z0 a1 a2 x0_ y0_ z0_ W).mono fun e W' ⟨he,hg⟩=>?_
 subst he
 exact⟨_,rfl,GY hW' (by kernel_rfl) rfl Tryz.underlying4 rfl rfl hg⟩
theorem over:Rows.touchPartsRow.holds Tryz.pinned (OpenSpec.ofChange Rows.touchPartsSpec):=
 OpenClaim.holds_of_wide 4 Tryz.f4 rfl rfl rfl rfl rfl rfl rfl ⟨rfl,rfl,rfl,rfl,rfl⟩ rfl rfl rfl rfl rfl (by kernel_rfl) Tryz.func4 (by kernel_rfl)
  (of_decide_eq_true (by kernel_rfl)) (by unfold Func.isWrapper;first | (rw[if_pos (by decide +kernel)];kernel_rfl) | (rw[if_neg (by decide +kernel)];exact⟨rfl,rfl⟩))
  (fun os started H enc _=>lifted os started H enc)
theorem proved:Rows.TouchPartsSaid:=
 over
end Go.Proofs.YtdbmppedhaipoaaGreat.touchParts

