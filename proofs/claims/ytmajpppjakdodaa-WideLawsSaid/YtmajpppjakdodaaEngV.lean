/- The engine, part V: blocks gone through piece by piece. -/
import Derived.Test.YtmajpppjakdodaaEngT
set_option linter.all false
set_option exponentiation.threshold 3000
namespace Go.Eng

/-- a block: its code with what comes behind it unopened -/
theorem run_block_cut {K : Cx} {n id : Nat} {c : Code} {s : St} {k : Exit → St → Prop}
    (h : ∀ kk : Exit → St → Prop, (∀ s', k .normal s' → kk .normal s') → (∀ s', k .normal s' → kk (.exit id) s') → (∀ i s', i ≠ id → k (.exit i) s' → kk (.exit i) s') → (∀ s', k .ret s' → kk .ret s') → run K n c s kk) : run K (n + 1) (.block id c) s k :=
  h (fun e s' => match e with
    | .exit id' => if id' == id then k .normal s' else k (.exit id') s'
    | e => k e s') (fun _ h => h) (fun s' h => by simpa using h) (fun i s' hi h => by simp only [beq_iff_eq, if_neg hi]; exact h) (fun _ h => h)

/-- one round of a loop that is gone through round by round, with what comes behind it unopened -/
theorem run_loop_cut {K : Cx} {n : Nat} {c : Code} {s : St} {k : Exit → St → Prop} (hun : K.un.un = true)
    (h : ∀ kk : Exit → St → Prop, (∀ s', run K n (.loop c) s' k → kk .normal s') → (∀ e s', e ≠ .normal → k e s' → kk e s') → run K n c s kk) : run K (n + 1) (.loop c) s k := by
  unfold run
  rw [hun]
  exact h (fun e s' => match e with
    | .normal => run K n (.loop c) s' k
    | e => k e s') (fun _ h => h) (fun e s' he hk => by cases e <;> first | exact absurd rfl he | exact hk)

end Go.Eng
