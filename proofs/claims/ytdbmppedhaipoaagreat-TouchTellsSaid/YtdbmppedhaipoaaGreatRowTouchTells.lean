
import Derived.Test.YtdbmppedhaipoaaGreatRows
import Derived.WalkKit
import Derived.ProofKit
import Derived.OpenShut
import Derived.Test.YtdbmppedhaipoaaGreatZLE1
import Derived.Test.YtdbmppedhaipoaaGreatEngAE
set_option linter.all false
set_option exponentiation.threshold 3000
namespace Go.Proofs.YtdbmppedhaipoaaGreat.touchTells
open Go.Eng Go.ChangeShapes Go.WideShapes Go.ChangeAt Go.RowKit
set_option linter.all false
theorem own:ownKnob Tryz.prog.godebug=none:=by kernel_rfl
def wit0:Wd:=⟨false,Dg.zero⟩
theorem walk (w:World) (x0 y0 z0:Int) (a1:Pt) (a2:Pt) (v3_0:Value) (a3_0:List (Int×Int×Int)) (v3_1:Value) (a3_1:List (Int×Int×Int)) (v3_2:Value) (a3_2:List Pt) (x0_:(Lit.int .i64 x0).wf=true) (y0_:(Lit.int .i64 y0).wf=true) (z0_:(Lit.int .i64 z0).wf=true) (s3_0:SlP .i3 w v3_0 a3_0) (q3_0: ∀ x,x∈a3_0→((Lit.int .i64 x.1).wf=true∧(Lit.int .i64 x.2.1).wf=true∧(Lit.int .i64 x.2.2).wf=true)) (s3_1:SlP .i3 w v3_1 a3_1) (q3_1: ∀ x,x∈a3_1→((Lit.int .i64 x.1).wf=true∧(Lit.int .i64 x.2.1).wf=true∧(Lit.int .i64 x.2.2).wf=true)) (s3_2:SlP .pt w v3_2 a3_2) :
  Calls Tryz.prog 3 (([.g [.s (.int .i64 x0), .s (.int .i64 y0), .s (.int .i64 z0)], .g [.P a1], .g [.P a2], .g [.s (.hs 0), .s (.hs 1), .s (.hs 2)]]:List CV).map (CV.den (Cb [⟨v3_0, .i3,a3_0⟩,⟨v3_1, .i3,a3_1⟩,⟨v3_2, .pt,a3_2⟩]))).toArray w fun e w'=>e= .returned (.bool true)∧Below w.heap.size w w':=by
 have b_x0:=bounds_i64 x0_
 have b_y0:=bounds_i64 y0_
 have b_z0:=bounds_i64 z0_
 refine Bk (ags:=[⟨v3_0, .i3,a3_0⟩,⟨v3_1, .i3,a3_1⟩,⟨v3_2, .pt,a3_2⟩]) (args:=[.g [.s (.int .i64 x0), .s (.int .i64 y0), .s (.int .i64 z0)], .g [.P a1], .g [.P a2], .g [.s (.hs 0), .s (.hs 1), .s (.hs 2)]]) VQ (fun a ha=>?_) (fun v hv ρ h=>?_) rfl (fun b hb=>?_)
 ·simp only[List.mem_cons,List.not_mem_nil,or_false] at ha
  rcases ha with rfl | rfl | rfl
  ·exact s3_0
  ·exact s3_1
  ·exact s3_2
 ·have hh: ∀ i,i < 3→ρ i=Cb [⟨v3_0, .i3,a3_0⟩,⟨v3_1, .i3,a3_1⟩,⟨v3_2, .pt,a3_2⟩] i:=fun i hi=>h i hi
  simp only[List.mem_cons,List.not_mem_nil,or_false] at hv
  rcases hv with rfl | rfl | rfl | rfl
  ·rfl
  ·rfl
  ·rfl
  ·simp only[CV.den,Sc.den,aI,At.cells,hh 0 (by decide),hh 1 (by decide),hh 2 (by decide)]
 ·have hb:b∈[P6 a3_0,P6 a3_1]:=hb
  simp only[List.mem_cons,List.not_mem_nil,or_false] at hb
  rcases hb with rfl | rfl
  ·exact Dm q3_0
  ·exact Dm q3_1
set_option maxRecDepth 100000 in
theorem lifted (os:Os) (started:os.Started) (H:Type) (enc:TypeId×Value→H) :
  ReturnsInHanded {} Tryz.checked os 3 .any (Rows.touchTellsSpec.pre6 enc Tryz.prog Tryz.f3 Rows.touchTellsRow.domain false) (Rows.touchTellsSpec.post enc Tryz.prog Tryz.f3 false true false false):=by
 refine returnsInHanded_of_change (C:=Tryz.checked) own started (by kernel_rfl) Tryz.func3
  (ChangeSpec.witness6 (enc:=enc) (C:=Tryz.checked) false ⟨#[], #[.agg #[.int .i64 0, .int .i64 0, .int .i64 0],(CV.g [.P ⟨⟨wit0,wit0⟩,⟨wit0,wit0⟩⟩]).den vC,(CV.g [.P ⟨⟨wit0,wit0⟩,⟨wit0,wit0⟩⟩]).den vC, .agg #[.slice none 0 0, .slice none 0 0, .slice none 0 0]],[]⟩ 8 (by kernel_rfl) (by kernel_rfl) (by kernel_rfl) (by kernel_rfl)) ?_
 intro W base args ds gs before hval0 hW hcnd _
 have hval: ∀ (j:Nat) t v,Tryz.f3.params[j]? =some t→args[j]? =some v→Value.okWide Tryz.prog W .any base t v:=hval0
 have hW':=hW
 obtain⟨p,q,hA0,hV,rfl,hfz,hnd⟩:=hW
 have hA:DataW.TrodAll enc Tryz.prog W 0 (fun _=>true) true Tryz.f3.params.toList args.toList ds p:=hA0
 rw[Tryz.params3] at hA hval
 obtain⟨v0,vs0,d0,ds0,p0,q0,hargs,rfl,rfl,h0,r0⟩:=trodAll_cons hA
 obtain⟨v1,vs1,d1,ds1,p1,q1,rfl,rfl,rfl,h1,r1⟩:=trodAll_cons r0
 obtain⟨v2,vs2,d2,ds2,p2,q2,rfl,rfl,rfl,h2,r2⟩:=trodAll_cons r1
 obtain⟨v3,vs3,d3,ds3,p3,q3,rfl,rfl,rfl,h3,r3⟩:=trodAll_cons r2
 obtain⟨rfl,rfl,rfl⟩:=trodAll_nil r3
 obtain rfl:args= #[v0,v1,v2,v3]:=by cases args;simp_all
 obtain⟨rfl,rfl⟩:=trodVars_none hV
 obtain⟨x0,y0,z0,rfl,x0_,y0_,z0_⟩:=VS Tryz.underlying23 rfl (by kernel_rfl) (hval 0 23 v0 rfl rfl) h0
 obtain⟨a1,rfl⟩:=Wn Tryz.underlying31 rfl (by kernel_rfl) (hval 1 31 v1 rfl rfl) h1
 obtain⟨a2,rfl⟩:=Wn Tryz.underlying31 rfl (by kernel_rfl) (hval 2 31 v2 rfl rfl) h2
 obtain⟨v3_0,v3_1,v3_2,nn,yy0,yy1,yy2,rfl,oo0,oo1,oo2,dd0,dd1,dd2⟩:=Bz Tryz.underlying36 (by kernel_rfl) rfl rfl rfl (by kernel_rfl) (by kernel_rfl) (by kernel_rfl) (by kernel_rfl) (hval 3 36 v3 rfl rfl) h3
 obtain⟨a3_0,s3_0,q3_0⟩:=yN (k:= .i3) Tryz.underlying32 (by kernel_rfl) (by kernel_rfl) Cs oo0 dd0
 obtain⟨a3_1,s3_1,q3_1⟩:=yN (k:= .i3) Tryz.underlying33 (by kernel_rfl) (by kernel_rfl) Cs oo1 dd1
 obtain⟨a3_2,s3_2,q3_2⟩:=yN (k:= .pt) Tryz.underlying34 (by kernel_rfl) (by kernel_rfl) IV oo2 dd2
 clear oo0 oo1 oo2 dd0 dd1 dd2
 have hwk:=walk W x0 y0 z0 a1 a2 v3_0 a3_0 v3_1 a3_1 v3_2 a3_2 x0_ y0_ z0_ s3_0 q3_0 s3_1 q3_1 s3_2
 refine Calls.mono hwk fun e W' ⟨he,hg⟩=>?_
 subst he
 exact⟨_,rfl,GY hW' (by kernel_rfl) rfl Tryz.underlying4 rfl rfl hg⟩
theorem over:Rows.touchTellsRow.holds Tryz.pinned (OpenSpec.ofChange Rows.touchTellsSpec):=
 OpenClaim.holds_of_wide 3 Tryz.f3 rfl rfl rfl rfl rfl rfl rfl ⟨rfl,rfl,rfl,rfl,rfl⟩ rfl rfl rfl rfl rfl (by kernel_rfl) Tryz.func3 (by kernel_rfl)
  (of_decide_eq_true (by kernel_rfl)) (by unfold Func.isWrapper;first | (rw[if_pos (by decide +kernel)];kernel_rfl) | (rw[if_neg (by decide +kernel)];exact⟨rfl,rfl⟩))
  (fun os started H enc _=>lifted os started H enc)
theorem proved:Rows.TouchTellsSaid:=
 over
end Go.Proofs.YtdbmppedhaipoaaGreat.touchTells

