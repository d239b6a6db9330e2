/- The engine, part V: blocks gone through piece by piece. -/
import Derived.Test.YtlcplkldielemaaEngT
set_option linter.all false
set_option exponentiation.threshold 3000
namespace Go.Eng

/-- a block: its code with what comes behind it unopened -/
theorem run_block_cut {K : Cx} {n id : Nat} {c : Code} {s : St} {k : Exit → St → Prop}
    (h : ∀ kk : Exit → St → Prop, (∀ s', k .normal s' → kk .normal s') → (∀ s', k .normal s' → kk (.exit id) s') → (∀ i s', i ≠ id → k (.exit i) s' → kk (.exit i) s') → (∀ s', k .ret s' → kk .ret s') → run K n c s kk) : run K (n + 1) (.block id c) s k :=
  h (fun e s' => match e with
    | .exit id' => if id' == id then k .normal s' else k (.exit id') s'
    | e => k e s') (fun _ h => h) (fun s' h => by simpa using h) (fun i s' hi h => by simp only [beq_iff_eq, if_neg hi]; exact h) (fun _ h => h)

end Go.Eng
