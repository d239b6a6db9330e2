
import Derived.Test.YtjjmpghdjoohfaaRows
import Derived.WalkKit
import Derived.ProofKit
import Derived.OpenShut
import Derived.Test.YtjjmpghdjoohfaaLQ3
import Derived.Test.YtjjmpghdjoohfaaEngW
set_option linter.all false
set_option exponentiation.threshold 3000
namespace Go.Proofs.Ytjjmpghdjoohfaa.lineMeets
open Go.Eng Go.ChangeShapes Go.WideShapes Go.ChangeAt Go.RowKit
set_option linter.all false
theorem own : ownKnob Try.prog.godebug = none := by kernel_rfl
def wit0 : Wd := ⟨false, Dg.zero⟩
theorem walk (a0 : Pt) (a1 : Pt) (a2 : Pt) (a3 : Pt) (w : World) :
    Calls Try.prog 3 (([.g [.P a0], .g [.P a1], .g [.P a2], .g [.P a3]] : List CV).map (CV.den rho0)).toArray w fun e w' => e = .returned (.bool true) ∧ Below w.heap.size w w' := by
  refine law_calls (args := [.g [.P a0], .g [.P a1], .g [.P a2], .g [.P a3]]) ok_lineMeets (fun v hv ρ => ?_) rfl (fun b hb => ?_) w
  · simp only [List.mem_cons, List.not_mem_nil, or_false] at hv
    rcases hv with rfl | rfl | rfl | rfl <;> rfl
  · cases hb
set_option maxRecDepth 100000 in
theorem lifted (os : Os) (started : os.Started) (H : Type) (enc : TypeId × Value → H) :
    ReturnsInHanded {} Try.checked os 3 .any (Rows.lineMeetsSpec.pre6 enc Try.prog Try.f3 Rows.lineMeetsRow.domain false) (Rows.lineMeetsSpec.post enc Try.prog Try.f3 false true false false) := by
  refine returnsInHanded_of_change (C := Try.checked) own started (by kernel_rfl) Try.func3
    (ChangeSpec.witness6 (enc := enc) (C := Try.checked) false ⟨#[], #[(CV.g [.P ⟨⟨wit0, wit0⟩, ⟨wit0, wit0⟩⟩]).den rho0, (CV.g [.P ⟨⟨wit0, wit0⟩, ⟨wit0, wit0⟩⟩]).den rho0, (CV.g [.P ⟨⟨wit0, wit0⟩, ⟨wit0, wit0⟩⟩]).den rho0, (CV.g [.P ⟨⟨wit0, wit0⟩, ⟨wit0, wit0⟩⟩]).den rho0], []⟩ 8 (by kernel_rfl) (by kernel_rfl) (by kernel_rfl) (by kernel_rfl)) ?_
  intro W base args ds gs before hval0 hW hcnd _
  have hval : ∀ (j : Nat) t v, Try.f3.params[j]? = some t → args[j]? = some v → Value.okWide Try.prog W .any base t v := hval0
  have hW' := hW
  obtain ⟨p, q, hA0, hV, rfl, hfz, hnd⟩ := hW
  have hA : DataW.TrodAll enc Try.prog W 0 (fun _ => true) true Try.f3.params.toList args.toList ds p := hA0
  rw [Try.params3] at hA hval
  obtain ⟨v0, vs0, d0, ds0, p0, q0, hargs, rfl, rfl, h0, r0⟩ := trodAll_cons hA
  obtain ⟨v1, vs1, d1, ds1, p1, q1, rfl, rfl, rfl, h1, r1⟩ := trodAll_cons r0
  obtain ⟨v2, vs2, d2, ds2, p2, q2, rfl, rfl, rfl, h2, r2⟩ := trodAll_cons r1
  obtain ⟨v3, vs3, d3, ds3, p3, q3, rfl, rfl, rfl, h3, r3⟩ := trodAll_cons r2
  obtain ⟨rfl, rfl, rfl⟩ := trodAll_nil r3
  obtain rfl : args = #[v0, v1, v2, v3] := by cases args; simp_all
  obtain ⟨rfl, rfl⟩ := trodVars_none hV
  obtain ⟨a0, rfl⟩ := open_P Try.underlying29 rfl (by kernel_rfl) (hval 0 29 v0 rfl rfl) h0
  obtain ⟨a1, rfl⟩ := open_P Try.underlying29 rfl (by kernel_rfl) (hval 1 29 v1 rfl rfl) h1
  obtain ⟨a2, rfl⟩ := open_P Try.underlying29 rfl (by kernel_rfl) (hval 2 29 v2 rfl rfl) h2
  obtain ⟨a3, rfl⟩ := open_P Try.underlying29 rfl (by kernel_rfl) (hval 3 29 v3 rfl rfl) h3
  refine (walk a0 a1 a2 a3 W).mono fun e W' ⟨he, hg⟩ => ?_
  subst he
  exact ⟨_, rfl, post_law hW' (by kernel_rfl) rfl Try.underlying4 rfl rfl hg⟩
theorem over : Rows.lineMeetsRow.holds Try.pinned (OpenSpec.ofChange Rows.lineMeetsSpec) :=
  OpenClaim.holds_of_wide 3 Try.f3 rfl rfl rfl rfl rfl rfl rfl ⟨rfl, rfl, rfl, rfl, rfl⟩ rfl rfl rfl rfl rfl (by kernel_rfl) Try.func3 (by kernel_rfl)
    (of_decide_eq_true (by kernel_rfl)) (by unfold Func.isWrapper; first | (rw [if_pos (by decide +kernel)]; kernel_rfl) | (rw [if_neg (by decide +kernel)]; exact ⟨rfl, rfl⟩))
    (fun os started H enc _ => lifted os started H enc)
theorem proved : Rows.LineMeetsSaid :=
  over
end Go.Proofs.Ytjjmpghdjoohfaa.lineMeets

