/- The engine, part N: functions of plain values; their contracts. -/
import Derived.Test.YtmajpppjakdodaaEngM
set_option linter.all false
set_option exponentiation.threshold 3000
namespace Go.Eng

def noIds : Ids := fun _ => False
def base0 : Base := ⟨fun _ => False, noIds, rho0, fun _ => False⟩

theorem HS.init (w : World) : HS w base0 rho0 [] noIds w where
  one _ := rfl
  ok id b h := by simp [look] at h
  sep i b j c h := by simp [look] at h
  wr i b x h := by simp [look] at h
  org i b x h := by simp [look] at h
  frame _ _ _ := rfl
  os := rfl
  tape := rfl
  output := rfl
  size := Nat.le_refl _
  ag := Agree.refl _ _
  inn _ h := h

theorem HS.toBelow {w w' : World} {Wr : Base} {ρ : Rho} {h : Heap} {n : Ids} (hs : HS w Wr ρ h n w') (hw : ∀ x, ¬ Wr.wr x) : RowKit.Below w.heap.size w w' :=
  ⟨hs.os, hs.tape, hs.output, hs.size, fun x hx => hs.frame x hx (hw x)⟩

theorem gBool_congr {K K' : Cx} (h : K.A = K'.A) (env : List (Nat × Ent)) : ∀ gs, gBool K env gs = gBool K' env gs
  | [] => rfl
  | (t, b) :: r => by
    have ih := gBool_congr h env r
    unfold gBool
    rw [h, ih]

theorem Sat.congr {K K' : Cx} (hN : K.N = K'.N) (hA : K.A = K'.A) {w0 : World} {Wr : Base} {ρ : Rho} {n : Ids} {s : St} {a : Act} {w : World} (hs : Sat K w0 Wr ρ n s a w) : Sat K' w0 Wr ρ n s a w where
  size := hs.size.trans hN
  defers := hs.defers
  env t e he := by
    have h := hs.env t e he
    rw [gBool_congr hA] at h
    exact h
  hs := hs.hs
  lt := hs.lt

theorem LoopP.congr {P : Program} {K K' : Cx} (hN : K.N = K'.N) (hA : K.A = K'.A) {w0 : World} {Wr : Base} {c : Code} {s : St} {k : Exit → St → Prop} (h : LoopP P K w0 Wr c s k) : LoopP P K' w0 Wr c s k :=
  fun ρ n a w hs => wp_mono (h ρ n a w (hs.congr hN.symm hA.symm)) fun _ _ _ ⟨s', ρ', n', h1, h2⟩ => ⟨s', ρ', n', h1, h2.congr hN hA⟩

/-- the frame of a function's proof: loops as they are -/
def cx0 (N : Nat) (T : Nat → Option TI) (C : Nat → Option Sem') : Cx := ⟨N, stdA, T, C, ⟨false, none⟩, fun _ _ _ => False⟩

section
variable {P : Program} {T : Nat → Option TI} {C : Nat → Option Sem'}

/-- a function where its arguments' blocks are known -/
theorem fn_calls (hT : TOK P T) (hC : COK P C) (hm : P.follows .mixedOrders = true) {f : Nat} {fn : Func} (hf : P.funcs[f]? = some fn) {args : List CV} {heap : Heap} {nid : Nat} {w : World} {Wr : Base}
    {ρ : Rho} {n : Ids} (hs : HS w Wr ρ heap n w) (hargs : ∀ v, v ∈ args → StbV n ρ v) (hlt : ∀ i, n i → i < nid) (hN : args.length ≤ fn.ntmps) {R : XV → Heap → Prop} {un : Md}
    (hrun : ∀ (A : Alg) (L : Code → St → (Exit → St → Prop) → Prop) (k : XV → Heap → Prop), A = stdA → (∀ c s k, LoopP P (cx0 fn.ntmps T C) w Wr c s k → L c s k) → (∀ v h, R v h → k v h) → runF ⟨0, A, T, C, un, L⟩ fn args heap nid k) :
    Calls P f (args.map (CV.den ρ)).toArray w fun e w' => ∃ v ρ' n' heap', R v heap' ∧ e = .returned (v.den ρ') ∧ StbX n' ρ' v ∧ HS w Wr ρ' heap' n' w' :=
  runF_sound (K := ⟨0, stdA, T, C, un, fun c s k => LoopP P (cx0 fn.ntmps T C) w Wr c s k⟩) (w := w) (Wr := Wr) rfl hT hC hm hf (fun c s k h => LoopP.congr (K := cx0 fn.ntmps T C) (K' := ⟨fn.ntmps, stdA, T, C, un, fun c s k => LoopP P (cx0 fn.ntmps T C) w Wr c s k⟩) rfl rfl h)
    (hrun stdA _ R rfl (fun _ _ _ h => h) fun _ _ h => h) hs hargs hlt hN

/-- a function of plain values -/
theorem pure_calls (hT : TOK P T) (hC : COK P C) (hm : P.follows .mixedOrders = true) {f : Nat} {fn : Func} (hf : P.funcs[f]? = some fn) {args : List CV} (w : World)
    (hargs : ∀ v, v ∈ args → ∀ ρ, v.den ρ = v.den rho0) (hN : args.length ≤ fn.ntmps) {R : Value} {un : Md}
    (hrun : ∀ (A : Alg) (L : Code → St → (Exit → St → Prop) → Prop) (k : XV → Heap → Prop), A = stdA → (∀ c s k, LoopP P (cx0 fn.ntmps T C) w base0 c s k → L c s k) → (∀ v h, (∀ ρ, v.den ρ = R) → k v h) → runF ⟨0, A, T, C, un, L⟩ fn args [] 0 k) :
    Calls P f (args.map (CV.den rho0)).toArray w fun e w' => e = .returned R ∧ RowKit.Below w.heap.size w w' :=
  (fn_calls hT hC hm hf (HS.init w) (fun v hv ρ' _ => hargs v hv ρ') (fun i h => h.elim) hN (R := fun v _ => ∀ ρ, v.den ρ = R) hrun).mono fun e w' ⟨v, ρ', n', heap', h1, h2, _, h4⟩ =>
    ⟨by rw [h2, h1], h4.toBelow fun _ h => h⟩

/-- the contract of a function of plain values -/
def pureSem (g : List CV → Option (List Bool × XV)) : Sem' := fun _ l _ => match g l with
  | some (ob, v) => some ⟨ob, v, [], []⟩
  | none => none

theorem callOK_pure {f : Nat} {fn : Func} (hf : P.funcs[f]? = some fn) (hn : fn.body.isNone = false) (hnm : (fn.name == "runtime.NumGoroutine") = false) {g : List CV → Option (List Bool × XV)}
    (h : ∀ l ob v, g l = some (ob, v) → (∀ b, b ∈ ob → b = true) → (∀ ρ ρ', v.den ρ' = v.den ρ) ∧ ∀ ρ w, Calls P f (l.map (CV.den ρ)).toArray w fun e w' => e = .returned (v.den ρ) ∧ RowKit.Below w.heap.size w w') : CallOK P f (pureSem g) where
  enters args w := by
    unfold callFunc
    simp only [Sem.run_bind, run_program, Result.andThen_ok, hf]
    rw [if_neg (by rw [hnm]; simp), if_neg (by rw [hn]; simp)]
    rfl
  calls n m args hp r hlt hr hob w0 Wr ρ w hs hargs := by
    unfold pureSem at hr
    split at hr
    · rename_i ob v hg
      simp only [Option.some.injEq] at hr
      subst hr
      obtain ⟨h1, h2⟩ := h args ob v hg hob
      refine (h2 ρ w).mono fun e w' ⟨he, hb⟩ => ⟨_, he, ρ, Agree.refl _ _, rfl, fun ρ' _ => h1 ρ ρ', (hs.below hb).addI0, But.of hb, fun i x g1 g2 => by simp at g2; omega⟩
    · simp at hr

end
end Go.Eng
