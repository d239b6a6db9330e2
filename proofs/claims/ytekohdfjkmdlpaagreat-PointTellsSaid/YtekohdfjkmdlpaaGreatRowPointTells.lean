
import Derived.Test.YtekohdfjkmdlpaaGreatRows
import Derived.WalkKit
import Derived.ProofKit
import Derived.OpenShut
import Derived.Test.YtekohdfjkmdlpaaGreatZLP5
import Derived.Test.YtekohdfjkmdlpaaGreatEngAE
set_option linter.all false
set_option exponentiation.threshold 3000
namespace Go.Proofs.YtekohdfjkmdlpaaGreat.pointTells
open Go.Eng Go.ChangeShapes Go.WideShapes Go.ChangeAt Go.RowKit
set_option linter.all false
theorem own : ownKnob Tryz.prog.godebug = none := by kernel_rfl
def wit0 : Wd := ⟨false, Dg.zero⟩
theorem walk (w : World) (a0 : Pt) (a1 : Pt) (a2 : Pt) (v3_ : Value) (a3 : List Pt) (a4 : Int) (a5 : Int) (w4 : (Lit.int .i16 a4).wf = true) (w5 : (Lit.int .i16 a5).wf = true) (s3 : SlP .pt w v3_ a3) :
    Calls Tryz.prog 3 (([.g [.P a0], .g [.P a1], .g [.P a2], .s (.hs 0), .s (.int .i16 a4), .s (.int .i16 a5)] : List CV).map (CV.den (argR [⟨v3_, .pt, a3⟩]))).toArray w fun e w' => e = .returned (.bool true) ∧ Below w.heap.size w w' := by
  have b_a4 := bounds_i16 w4
  have b_a5 := bounds_i16 w5
  refine law_callsH (ags := [⟨v3_, .pt, a3⟩]) (args := [.g [.P a0], .g [.P a1], .g [.P a2], .s (.hs 0), .s (.int .i16 a4), .s (.int .i16 a5)]) ok_pointTells (fun a ha => ?_) (fun v hv ρ h => ?_) rfl (fun b hb => ?_)
  · simp only [List.mem_cons, List.not_mem_nil, or_false] at ha
    rcases ha with rfl
    · exact s3
  · have hh : ∀ i, i < 1 → ρ i = argR [⟨v3_, .pt, a3⟩] i := fun i hi => h i hi
    simp only [List.mem_cons, List.not_mem_nil, or_false] at hv
    rcases hv with rfl | rfl | rfl | rfl | rfl | rfl
    · rfl
    · rfl
    · rfl
    · simp only [CV.den, Sc.den, flats, At.cells, hh 0 (by decide)]
    · rfl
    · rfl
  · have hb : b ∈ [decide (-32768 ≤ a4), decide (a4 < 32768), decide (-32768 ≤ a5), decide (a5 < 32768)] := hb
    simp only [List.mem_cons, List.not_mem_nil, or_false] at hb
    rcases hb with rfl | rfl | rfl | rfl
    · apply decide_eq_true; omega
    · apply decide_eq_true; omega
    · apply decide_eq_true; omega
    · apply decide_eq_true; omega
set_option maxRecDepth 100000 in
theorem lifted (os : Os) (started : os.Started) (H : Type) (enc : TypeId × Value → H) :
    ReturnsInHanded {} Tryz.checked os 3 .any (Rows.pointTellsSpec.pre6 enc Tryz.prog Tryz.f3 Rows.pointTellsRow.domain false) (Rows.pointTellsSpec.post enc Tryz.prog Tryz.f3 false true false false) := by
  refine returnsInHanded_of_change (C := Tryz.checked) own started (by kernel_rfl) Tryz.func3
    (ChangeSpec.witness6 (enc := enc) (C := Tryz.checked) false ⟨#[], #[(CV.g [.P ⟨⟨wit0, wit0⟩, ⟨wit0, wit0⟩⟩]).den rho0, (CV.g [.P ⟨⟨wit0, wit0⟩, ⟨wit0, wit0⟩⟩]).den rho0, (CV.g [.P ⟨⟨wit0, wit0⟩, ⟨wit0, wit0⟩⟩]).den rho0, .slice none 0 0, .int .i16 0, .int .i16 0], []⟩ 8 (by kernel_rfl) (by kernel_rfl) (by kernel_rfl) (by kernel_rfl)) ?_
  intro W base args ds gs before hval0 hW hcnd _
  have hval : ∀ (j : Nat) t v, Tryz.f3.params[j]? = some t → args[j]? = some v → Value.okWide Tryz.prog W .any base t v := hval0
  have hW' := hW
  obtain ⟨p, q, hA0, hV, rfl, hfz, hnd⟩ := hW
  have hA : DataW.TrodAll enc Tryz.prog W 0 (fun _ => true) true Tryz.f3.params.toList args.toList ds p := hA0
  rw [Tryz.params3] at hA hval
  obtain ⟨v0, vs0, d0, ds0, p0, q0, hargs, rfl, rfl, h0, r0⟩ := trodAll_cons hA
  obtain ⟨v1, vs1, d1, ds1, p1, q1, rfl, rfl, rfl, h1, r1⟩ := trodAll_cons r0
  obtain ⟨v2, vs2, d2, ds2, p2, q2, rfl, rfl, rfl, h2, r2⟩ := trodAll_cons r1
  obtain ⟨v3, vs3, d3, ds3, p3, q3, rfl, rfl, rfl, h3, r3⟩ := trodAll_cons r2
  obtain ⟨v4, vs4, d4, ds4, p4, q4, rfl, rfl, rfl, h4, r4⟩ := trodAll_cons r3
  obtain ⟨v5, vs5, d5, ds5, p5, q5, rfl, rfl, rfl, h5, r5⟩ := trodAll_cons r4
  obtain ⟨rfl, rfl, rfl⟩ := trodAll_nil r5
  obtain rfl : args = #[v0, v1, v2, v3, v4, v5] := by cases args; simp_all
  obtain ⟨rfl, rfl⟩ := trodVars_none hV
  obtain ⟨a0, rfl⟩ := open_P Tryz.underlying29 rfl (by kernel_rfl) (hval 0 29 v0 rfl rfl) h0
  obtain ⟨a1, rfl⟩ := open_P Tryz.underlying29 rfl (by kernel_rfl) (hval 1 29 v1 rfl rfl) h1
  obtain ⟨a2, rfl⟩ := open_P Tryz.underlying29 rfl (by kernel_rfl) (hval 2 29 v2 rfl rfl) h2
  obtain ⟨a3, s3, q3⟩ := open_S (k := .pt) Tryz.underlying30 (by kernel_rfl) (by kernel_rfl) conv_pt (hval 3 30 v3 rfl rfl) h3
  obtain ⟨a4, rfl, rfl, rfl, w4⟩ := open_int Tryz.underlying31 (hval 4 31 v4 rfl rfl) h4
  obtain ⟨a5, rfl, rfl, rfl, w5⟩ := open_int Tryz.underlying31 (hval 5 31 v5 rfl rfl) h5
  have hwk := walk W a0 a1 a2 v3 a3 a4 a5 w4 w5 s3
  refine Calls.mono hwk fun e W' ⟨he, hg⟩ => ?_
  subst he
  exact ⟨_, rfl, post_law hW' (by kernel_rfl) rfl Tryz.underlying4 rfl rfl hg⟩
theorem over : Rows.pointTellsRow.holds Tryz.pinned (OpenSpec.ofChange Rows.pointTellsSpec) :=
  OpenClaim.holds_of_wide 3 Tryz.f3 rfl rfl rfl rfl rfl rfl rfl ⟨rfl, rfl, rfl, rfl, rfl⟩ rfl rfl rfl rfl rfl (by kernel_rfl) Tryz.func3 (by kernel_rfl)
    (of_decide_eq_true (by kernel_rfl)) (by unfold Func.isWrapper; first | (rw [if_pos (by decide +kernel)]; kernel_rfl) | (rw [if_neg (by decide +kernel)]; exact ⟨rfl, rfl⟩))
    (fun os started H enc _ => lifted os started H enc)
theorem proved : Rows.PointTellsSaid :=
  over
end Go.Proofs.YtekohdfjkmdlpaaGreat.pointTells

