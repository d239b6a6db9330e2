
import Derived.Test.YtdbmppedhaipoaaGreatRows
import Derived.WalkKit
import Derived.ProofKit
import Derived.OpenShut
import Derived.Test.YtdbmppedhaipoaaGreatZLG2
import Derived.Test.YtdbmppedhaipoaaGreatEngAE
set_option linter.all false
set_option exponentiation.threshold 3000
namespace Go.Proofs.YtdbmppedhaipoaaGreat.wantUp
open Go.Eng Go.ChangeShapes Go.WideShapes Go.ChangeAt Go.RowKit
set_option linter.all false
theorem own:ownKnob Tryz.prog.godebug=none:=by kernel_rfl
theorem walk (w:World) (v0_0:Value) (a0_0:List (Int×Int×Int)) (v0_1:Value) (a0_1:List (Int×Int×Int)) (v0_2:Value) (a0_2:List Pt) (a1_0:Int) (a1_1:Int) (v1_2:Value) (a1_2:List (Int×Int×Int)) (x2 y2 z2:Int) (w1_0:(Lit.int .i64 a1_0).wf=true) (w1_1:(Lit.int .i64 a1_1).wf=true) (x2_:(Lit.int .i64 x2).wf=true) (y2_:(Lit.int .i64 y2).wf=true) (z2_:(Lit.int .i64 z2).wf=true) (s0_0:SlP .i3 w v0_0 a0_0) (q0_0: ∀ x,x∈a0_0→((Lit.int .i64 x.1).wf=true∧(Lit.int .i64 x.2.1).wf=true∧(Lit.int .i64 x.2.2).wf=true)) (s0_1:SlP .i3 w v0_1 a0_1) (q0_1: ∀ x,x∈a0_1→((Lit.int .i64 x.1).wf=true∧(Lit.int .i64 x.2.1).wf=true∧(Lit.int .i64 x.2.2).wf=true)) (s0_2:SlP .pt w v0_2 a0_2) (s1_2:SlP .i3 w v1_2 a1_2) (q1_2: ∀ x,x∈a1_2→((Lit.int .i64 x.1).wf=true∧(Lit.int .i64 x.2.1).wf=true∧(Lit.int .i64 x.2.2).wf=true)) :
  Calls Tryz.prog 8 (([.g [.s (.hs 0), .s (.hs 1), .s (.hs 2)], .g [.s (.int .i64 a1_0), .s (.int .i64 a1_1), .s (.hs 3)], .g [.s (.int .i64 x2), .s (.int .i64 y2), .s (.int .i64 z2)]]:List CV).map (CV.den (Cb [⟨v0_0, .i3,a0_0⟩,⟨v0_1, .i3,a0_1⟩,⟨v0_2, .pt,a0_2⟩,⟨v1_2, .i3,a1_2⟩]))).toArray w fun e w'=>e= .returned (.bool true)∧Below w.heap.size w w':=by
 have b_a1_0:=bounds_i64 w1_0
 have b_a1_1:=bounds_i64 w1_1
 have b_x2:=bounds_i64 x2_
 have b_y2:=bounds_i64 y2_
 have b_z2:=bounds_i64 z2_
 refine Bk (ags:=[⟨v0_0, .i3,a0_0⟩,⟨v0_1, .i3,a0_1⟩,⟨v0_2, .pt,a0_2⟩,⟨v1_2, .i3,a1_2⟩]) (args:=[.g [.s (.hs 0), .s (.hs 1), .s (.hs 2)], .g [.s (.int .i64 a1_0), .s (.int .i64 a1_1), .s (.hs 3)], .g [.s (.int .i64 x2), .s (.int .i64 y2), .s (.int .i64 z2)]]) aaA (fun a ha=>?_) (fun v hv ρ h=>?_) rfl (fun b hb=>?_)
 ·simp only[List.mem_cons,List.not_mem_nil,or_false] at ha
  rcases ha with rfl | rfl | rfl | rfl
  ·exact s0_0
  ·exact s0_1
  ·exact s0_2
  ·exact s1_2
 ·have hh: ∀ i,i < 4→ρ i=Cb [⟨v0_0, .i3,a0_0⟩,⟨v0_1, .i3,a0_1⟩,⟨v0_2, .pt,a0_2⟩,⟨v1_2, .i3,a1_2⟩] i:=fun i hi=>h i hi
  simp only[List.mem_cons,List.not_mem_nil,or_false] at hv
  rcases hv with rfl | rfl | rfl
  ·simp only[CV.den,Sc.den,aI,At.cells,hh 0 (by decide),hh 1 (by decide),hh 2 (by decide)]
  ·simp only[CV.den,Sc.den,aI,At.cells,hh 3 (by decide)]
  ·rfl
 ·have hb:b∈[decide (-9223372036854775808≤a1_0),decide (a1_0 < 9223372036854775808),decide (-9223372036854775808≤a1_1),decide (a1_1 < 9223372036854775808),P6 a0_0,P6 a0_1,P6 a1_2]:=hb
  simp only[List.mem_cons,List.not_mem_nil,or_false] at hb
  rcases hb with rfl | rfl | rfl | rfl | rfl | rfl | rfl
  ·apply decide_eq_true;omega
  ·apply decide_eq_true;omega
  ·apply decide_eq_true;omega
  ·apply decide_eq_true;omega
  ·exact Dm q0_0
  ·exact Dm q0_1
  ·exact Dm q1_2
set_option maxRecDepth 100000 in
theorem lifted (os:Os) (started:os.Started) (H:Type) (enc:TypeId×Value→H) :
  ReturnsInHanded {} Tryz.checked os 8 .any (Rows.wantUpSpec.pre6 enc Tryz.prog Tryz.f8 Rows.wantUpRow.domain false) (Rows.wantUpSpec.post enc Tryz.prog Tryz.f8 false true false false):=by
 refine returnsInHanded_of_change (C:=Tryz.checked) own started (by kernel_rfl) Tryz.func8
  (ChangeSpec.witness6 (enc:=enc) (C:=Tryz.checked) false ⟨#[], #[.agg #[.slice none 0 0, .slice none 0 0, .slice none 0 0], .agg #[.int .i64 0, .int .i64 0, .slice none 0 0], .agg #[.int .i64 0, .int .i64 0, .int .i64 0]],[]⟩ 8 (by kernel_rfl) (by kernel_rfl) (by kernel_rfl) (by kernel_rfl)) ?_
 intro W base args ds gs before hval0 hW hcnd _
 have hval: ∀ (j:Nat) t v,Tryz.f8.params[j]? =some t→args[j]? =some v→Value.okWide Tryz.prog W .any base t v:=hval0
 have hW':=hW
 obtain⟨p,q,hA0,hV,rfl,hfz,hnd⟩:=hW
 have hA:DataW.TrodAll enc Tryz.prog W 0 (fun _=>true) true Tryz.f8.params.toList args.toList ds p:=hA0
 rw[Tryz.params8] at hA hval
 obtain⟨v0,vs0,d0,ds0,p0,q0,hargs,rfl,rfl,h0,r0⟩:=trodAll_cons hA
 obtain⟨v1,vs1,d1,ds1,p1,q1,rfl,rfl,rfl,h1,r1⟩:=trodAll_cons r0
 obtain⟨v2,vs2,d2,ds2,p2,q2,rfl,rfl,rfl,h2,r2⟩:=trodAll_cons r1
 obtain⟨rfl,rfl,rfl⟩:=trodAll_nil r2
 obtain rfl:args= #[v0,v1,v2]:=by cases args;simp_all
 obtain⟨rfl,rfl⟩:=trodVars_none hV
 obtain⟨v0_0,v0_1,v0_2,nn,yy0,yy1,yy2,rfl,oo0,oo1,oo2,dd0,dd1,dd2⟩:=Bz Tryz.underlying36 (by kernel_rfl) rfl rfl rfl (by kernel_rfl) (by kernel_rfl) (by kernel_rfl) (by kernel_rfl) (hval 0 36 v0 rfl rfl) h0
 obtain⟨a0_0,s0_0,q0_0⟩:=yN (k:= .i3) Tryz.underlying32 (by kernel_rfl) (by kernel_rfl) Cs oo0 dd0
 obtain⟨a0_1,s0_1,q0_1⟩:=yN (k:= .i3) Tryz.underlying33 (by kernel_rfl) (by kernel_rfl) Cs oo1 dd1
 obtain⟨a0_2,s0_2,q0_2⟩:=yN (k:= .pt) Tryz.underlying34 (by kernel_rfl) (by kernel_rfl) IV oo2 dd2
 clear oo0 oo1 oo2 dd0 dd1 dd2
 obtain⟨x0_,x1_,v1_2,nn,yy0,yy1,yy2,rfl,oo0,oo1,oo2,dd0,dd1,dd2⟩:=Bz Tryz.underlying56 (by kernel_rfl) rfl rfl rfl (by kernel_rfl) (by kernel_rfl) (by kernel_rfl) (by kernel_rfl) (hval 1 56 v1 rfl rfl) h1
 obtain⟨a1_0,rfl,w1_0⟩:=Vr (k:= .i64) Tryz.underlying3 dd0
 obtain⟨a1_1,rfl,w1_1⟩:=Vr (k:= .i64) Tryz.underlying3 dd1
 obtain⟨a1_2,s1_2,q1_2⟩:=yN (k:= .i3) Tryz.underlying54 (by kernel_rfl) (by kernel_rfl) Cs oo2 dd2
 clear oo0 oo1 oo2 dd0 dd1 dd2
 obtain⟨x2,y2,z2,rfl,x2_,y2_,z2_⟩:=VS Tryz.underlying23 rfl (by kernel_rfl) (hval 2 23 v2 rfl rfl) h2
 have hwk:=walk W v0_0 a0_0 v0_1 a0_1 v0_2 a0_2 a1_0 a1_1 v1_2 a1_2 x2 y2 z2 w1_0 w1_1 x2_ y2_ z2_ s0_0 q0_0 s0_1 q0_1 s0_2 s1_2 q1_2
 refine Calls.mono hwk fun e W' ⟨he,hg⟩=>?_
 subst he
 exact⟨_,rfl,GY hW' (by kernel_rfl) rfl Tryz.underlying4 rfl rfl hg⟩
theorem over:Rows.wantUpRow.holds Tryz.pinned (OpenSpec.ofChange Rows.wantUpSpec):=
 OpenClaim.holds_of_wide 8 Tryz.f8 rfl rfl rfl rfl rfl rfl rfl ⟨rfl,rfl,rfl,rfl,rfl⟩ rfl rfl rfl rfl rfl (by kernel_rfl) Tryz.func8 (by kernel_rfl)
  (of_decide_eq_true (by kernel_rfl)) (by unfold Func.isWrapper;first | (rw[if_pos (by decide +kernel)];kernel_rfl) | (rw[if_neg (by decide +kernel)];exact⟨rfl,rfl⟩))
  (fun os started H enc _=>lifted os started H enc)
theorem proved:Rows.WantUpSaid:=
 over
end Go.Proofs.YtdbmppedhaipoaaGreat.wantUp

