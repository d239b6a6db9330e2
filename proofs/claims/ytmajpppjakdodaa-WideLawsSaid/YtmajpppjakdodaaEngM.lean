/- The engine, part M: code, functions, contracts. -/
import Derived.Test.YtmajpppjakdodaaEngL
import Derived.Scope
set_option linter.all false
set_option exponentiation.threshold 3000
namespace Go.Eng
section
variable {P : Program} {K : Cx} {w0 : World} {Wr : Base}

/-- what the evaluator takes of a loop -/
def LoopP (P : Program) (K : Cx) (w0 : World) (Wr : Base) (c : Code) (s : St) (k : Exit → St → Prop) : Prop :=
  ∀ ρ n a w, Sat K w0 Wr ρ n s a w → (Code.loop c).wp P (Qk K w0 Wr k) a w

/-- at the head of a loop that is under way -/
def LoopW (P : Program) (c : Code) (Q : Exit → Act → World → Prop) (a : Act) (w : World) : Prop :=
  ∀ (b : Frame) (k : List Item) (cs : List Frame), ∃ e a' w', Q e a' w' ∧ Arrives P (lone (b.at a (.code c :: .inLoop c :: k)) cs w) b k cs e a' w'

theorem LoopW.wp {c : Code} {Q : Exit → Act → World → Prop} {a : Act} {w : World} (h : LoopW P c Q a w) : (Code.loop c).wp P Q a w :=
  fun b k cs => let ⟨e, a', w', q, r⟩ := h b k cs; ⟨e, a', w', q, .of_steps (.one step_loop) r⟩

theorem LoopW.step {c : Code} {Q : Exit → Act → World → Prop} {a : Act} {w : World} (h : c.wp P (Exit.then (LoopW P c Q) Q) a w) : LoopW P c Q a w := by
  intro b k cs
  obtain ⟨e, a₁, w₁, hq, harr⟩ := h b (.inLoop c :: k) cs
  cases e with
  | normal =>
    obtain ⟨e₂, a₂, w₂, hq₂, harr₂⟩ := hq b k cs
    exact ⟨e₂, a₂, w₂, hq₂, .of_steps (Steps.trans harr (.one step_inLoop)) harr₂⟩
  | exit id => exact ⟨_, a₁, w₁, hq, .pass (x := .inLoop c) rfl (fun _ _ => .inl (by simp)) harr⟩
  | goto l => exact ⟨_, a₁, w₁, hq, .pass (x := .inLoop c) rfl (fun _ _ => .inl (by simp)) harr⟩
  | ret => exact ⟨_, a₁, w₁, hq, .pass (x := .inLoop c) rfl (fun _ _ => .inl (by simp)) harr⟩
  | panic ch => exact ⟨_, a₁, w₁, hq, .pass (x := .inLoop c) rfl (fun _ _ => .inl (by simp)) harr⟩
  | outgrown => exact ⟨_, a₁, w₁, hq, .pass (x := .inLoop c) rfl (fun _ _ => .inl (by simp)) harr⟩

theorem run_both (hA : K.A = stdA) (hT : TOK P K.T) (hC : COK P K.C) (hm : P.follows .mixedOrders = true) (hL : ∀ c s k, K.loop c s k → LoopP P K w0 Wr c s k) (fuel : Nat) :
    (∀ (c : Code) (s : St) (k : Exit → St → Prop), run K fuel c s k → ∀ ρ n a w, Sat K w0 Wr ρ n s a w → c.wp P (Qk K w0 Wr k) a w) ∧
    (K.un.un = true → ∀ (c : Code) (s : St) (k : Exit → St → Prop), run K fuel (.loop c) s k → ∀ ρ n a w, Sat K w0 Wr ρ n s a w → LoopW P c (Qk K w0 Wr k) a w) := by
  induction fuel with
  | zero => exact ⟨fun c s k h => by simp [run] at h, fun _ c s k h => by simp [run] at h⟩
  | succ fuel ih =>
    obtain ⟨ih1, ih2⟩ := ih
    have hloop : K.un.un = true → ∀ (c : Code) (s : St) (k : Exit → St → Prop), run K (fuel + 1) (.loop c) s k → ∀ ρ n a w, Sat K w0 Wr ρ n s a w → LoopW P c (Qk K w0 Wr k) a w := by
      intro hun c s k h ρ n a w hs
      simp only [run, hun] at h
      refine LoopW.step (wp_mono (ih1 c s _ h ρ n a w hs) fun e a' w' ⟨s', ρ', n', hk, hs'⟩ => ?_)
      cases e with
      | normal => exact ih2 hun c s' k hk ρ' n' a' w' hs'
      | _ => exact ⟨s', ρ', n', hk, hs'⟩
    refine ⟨fun c s k h => ?_, hloop⟩
    intro ρ n a w hs
    cases c with
    | skip => exact wp_skip ⟨s, ρ, n, h, hs⟩
    | region id ops draw =>
      cases draw with
      | true =>
        exact runDraw_sound hA hT hC hm (fun s' hk ρ n a w hs' => ⟨_, ρ, n, hk, prune_clean_sat hs'⟩) h (fun t e he => (clean_mem he).2) (clean_sat hs)
      | false =>
        exact wp_region_list (runOps_sound hA hT hC rfl (fun s' hk ρ n a w hs' => ⟨_, ρ, n, hk, prune_clean_sat hs'⟩) _ _ h ρ n a w hs)
    | seq x y =>
      refine wp_seq (wp_mono (ih1 x s _ h ρ n a w hs) fun e a' w' ⟨s', ρ', n', hk, hs'⟩ => ?_)
      cases e with
      | normal => exact ih1 y s' k hk ρ' n' a' w' hs'
      | _ => exact ⟨s', ρ', n', hk, hs'⟩
    | cond c x y =>
      simp only [run] at h
      split at h
      · rename_i hc
        have h1 := (rdS_sound (gs := []) hA hs rfl hc).1
        exact wp_cond_true h1 (ih1 x s k h ρ n a w hs)
      · rename_i hc
        have h1 := (rdS_sound (gs := []) hA hs rfl hc).1
        exact wp_cond_false h1 (ih1 y s k h ρ n a w hs)
      · rename_i z hc
        have h1 := (rdS_sound (gs := []) hA hs rfl hc).1
        exact wp_cond_split (t := z) h1 (fun e => ih1 x s k (h.1 e) ρ n a w hs) (fun e => ih1 y s k (h.2 e) ρ n a w hs)
      · exact h.elim
    | block id c =>
      refine wp_block (wp_mono (ih1 c s _ h ρ n a w hs) fun e a' w' ⟨s', ρ', n', hk, hs'⟩ => ?_)
      cases e with
      | exit id' =>
        simp only [Exit.inBlock]
        simp only at hk
        by_cases he : id' = id
        · rw [if_pos he]; rw [if_pos (by simpa using he)] at hk; exact ⟨s', ρ', n', hk, hs'⟩
        · rw [if_neg he]; rw [if_neg (by simpa using he)] at hk; exact ⟨s', ρ', n', hk, hs'⟩
      | _ => exact ⟨s', ρ', n', hk, hs'⟩
    | exit id => exact wp_exit ⟨s, ρ, n, h, hs⟩
    | ret => exact wp_ret ⟨s, ρ, n, h, hs⟩
    | loop c =>
      cases hun : K.un.un with
      | true => exact (hloop hun c s k h ρ n a w hs).wp
      | false =>
        simp only [run, hun] at h
        exact hL c s k h ρ n a w hs
    | _ => simp [run] at h

theorem run_sound (hA : K.A = stdA) (hT : TOK P K.T) (hC : COK P K.C) (hm : P.follows .mixedOrders = true) (hL : ∀ c s k, K.loop c s k → LoopP P K w0 Wr c s k)
    (fuel : Nat) (c : Code) (s : St) (k : Exit → St → Prop) (h : run K fuel c s k) : ∀ ρ n a w, Sat K w0 Wr ρ n s a w → c.wp P (Qk K w0 Wr k) a w :=
  (run_both hA hT hC hm hL fuel).1 c s k h

/-! functions -/
theorem loadAt_addr {t : Nat} {v r : Value} {w : World} (h : (Instr.loadAt t v).run P w = .ok r w) : (do loadVar t (← asAddr v) : Sem Value).run P w = .ok r w := by
  cases v with
  | pointer a =>
    cases a with
    | none => simp [Instr.loadAt, Instr.sureAddr] at h
    | some a => simpa [Instr.loadAt, Instr.sureAddr, asAddr] using h
  | _ => simp [Instr.loadAt, Instr.sureAddr] at h

def resOf (tmps : Array Value) : ResultVar → Sem Value
  | .tmp t => pure (tmps.getD t undef)
  | .cell x t => do loadVar t (← asAddr (tmps.getD x undef))

theorem results_eq (fn : Func) (tmps : Array Value) : results fn tmps = (do let vs ← fn.results.mapM (resOf tmps); pure (if h : vs.size = 1 then vs[0] else .tuple vs)) := by
  unfold results
  have : (fun (r : ResultVar) => match r with | .tmp t => (pure (tmps.getD t undef) : Sem Value) | .cell x t => do loadVar t (← asAddr (tmps.getD x undef))) = resOf tmps := funext fun r => by cases r <;> rfl
  rw [← this]
  rfl

theorem resC_sound (hA : K.A = stdA) (hT : TOK P K.T) {ρ : Rho} {n : Ids} {s : St} {a : Act} {w : World} (hs : Sat K w0 Wr ρ n s a w) {r : ResultVar} {v : CV} (h : resC K s r = some v) :
    (resOf a.tmps r).run P w = .ok (v.den ρ) w ∧ StbV n ρ v := by
  cases r with
  | tmp t =>
    obtain ⟨h1, h2⟩ := rdC_sound (gs := []) hA hs rfl h
    refine ⟨?_, h2⟩
    simp only [resOf, Sem.run_pure]
    have : a.eval (.tmp t) = a.tmps.getD t undef := rfl
    rw [← this, h1]
  | cell x t =>
    simp only [resC] at h
    split at h
    · rename_i p hp
      obtain ⟨h1, h2⟩ := rdS_sound (gs := []) hA hs rfl hp
      split at h
      · rename_i u hu
        simp only [Option.some.injEq] at h
        subst h
        obtain ⟨u', g1, _, _, g4⟩ := load_PS (P := P) (w := w) hA hT hs.hs hu
        simp only [XV.c.injEq] at g1
        subst g1
        obtain ⟨g5, g6⟩ := g4 fun b hb => by simp at hb
        refine ⟨?_, g6⟩
        have : a.tmps.getD x undef = p.den ρ := h1
        simp only [resOf]
        rw [this]
        exact loadAt_addr g5
      · simp at h
    · simp at h

theorem resL_sound (hA : K.A = stdA) (hT : TOK P K.T) {ρ : Rho} {n : Ids} {s : St} {a : Act} {w : World} (hs : Sat K w0 Wr ρ n s a w) : ∀ {l : List ResultVar} {vs : List CV}, resL K s l = some vs →
    (l.mapM (resOf a.tmps)).run P w = .ok (vs.map (CV.den ρ)) w ∧ ∀ v, v ∈ vs → StbV n ρ v
  | [], vs, h => by simp only [resL, Option.some.injEq] at h; subst h; exact ⟨by simp, fun v hv => by simp at hv⟩
  | r :: l, vs, h => by
    simp only [resL] at h
    split at h
    · rename_i v m hv hm
      simp only [Option.some.injEq] at h
      subst h
      obtain ⟨h1, h2⟩ := resC_sound hA hT hs hv
      obtain ⟨h3, h4⟩ := resL_sound hA hT hs hm
      refine ⟨?_, fun u hu => ?_⟩
      · rw [List.mapM_cons, Sem.run_bind, h1, Result.andThen_ok, Sem.run_bind, h3]
        rfl
      · simp only [List.mem_cons] at hu
        rcases hu with rfl | hu
        · exact h2
        · exact h4 u hu
    · simp at h

theorem resX_sound (hA : K.A = stdA) (hT : TOK P K.T) {ρ : Rho} {n : Ids} {s : St} {a : Act} {w : World} (hs : Sat K w0 Wr ρ n s a w) {fn : Func} {v : XV} (h : resX K s fn.results.toList = some v) :
    (results fn a.tmps).run P w = .ok (v.den ρ) w ∧ StbX n ρ v := by
  have key : ∀ vs : List CV, resL K s fn.results.toList = some vs → (fn.results.mapM (resOf a.tmps)).run P w = .ok (vs.map (CV.den ρ)).toArray w ∧ ∀ v, v ∈ vs → StbV n ρ v := by
    intro vs hvs
    obtain ⟨h1, h2⟩ := resL_sound hA hT hs hvs
    refine ⟨?_, h2⟩
    rw [Array.mapM_eq_mapM_toList, Sem.run_map, h1]
    rfl
  unfold resX at h
  split at h
  · rename_i v' hv
    simp only [Option.some.injEq] at h
    subst h
    obtain ⟨h1, h2⟩ := key _ hv
    refine ⟨?_, h2 v' (List.mem_cons_self ..)⟩
    rw [results_eq, Sem.run_bind, h1]
    simp [XV.den]
  · rename_i m hne hm
    simp only [Option.some.injEq] at h
    subst h
    obtain ⟨h1, h2⟩ := key _ hm
    refine ⟨?_, fun ρ' ha => ?_⟩
    · rw [results_eq, Sem.run_bind, h1]
      have hl : (m.map (CV.den ρ)).toArray.size ≠ 1 := by
        intro h
        simp only [List.size_toArray, List.length_map] at h
        obtain ⟨x, hx⟩ := List.length_eq_one_iff.1 h
        rw [hx] at hm
        exact hne x hx
      simp only [Result.andThen_ok, Sem.run_pure]
      rw [dif_neg hl]
      rfl
    · simp only [XV.den]
      congr 2
      exact List.map_congr_left fun x hx => h2 x hx ρ' ha
  · simp at h

theorem initEnv_mem {t : Nat} {e : Ent} : ∀ {l : List CV} {m : Nat}, (t, e) ∈ initEnv m l → ∃ i v, l[i]? = some v ∧ t = m + i ∧ e = ⟨[], .c v⟩
  | [], _, h => by simp [initEnv] at h
  | v :: r, m, h => by
    simp only [initEnv, List.mem_cons, Prod.mk.injEq] at h
    rcases h with ⟨rfl, rfl⟩ | h
    · exact ⟨0, v, by simp, by simp, rfl⟩
    · obtain ⟨i, u, h1, h2, h3⟩ := initEnv_mem h
      exact ⟨i + 1, u, by simpa using h1, by omega, h3⟩

/-- a function, called where its arguments' blocks are known -/
theorem runF_sound (hA : K.A = stdA) (hT : TOK P K.T) (hC : COK P K.C) (hm : P.follows .mixedOrders = true) {f : Nat} {fn : Func} (hf : P.funcs[f]? = some fn)
    {args : List CV} {heap : Heap} {nid : Nat} {k : XV → Heap → Prop} {w : World} (hL : ∀ c s k, K.loop c s k → LoopP P { K with N := fn.ntmps } w Wr c s k) (h : runF K fn args heap nid k)
    {ρ : Rho} {n : Ids} (hs : HS w Wr ρ heap n w) (hargs : ∀ v, v ∈ args → StbV n ρ v) (hlt : ∀ i, n i → i < nid) (hN : args.length ≤ fn.ntmps) :
    Calls P f (args.map (CV.den ρ)).toArray w fun e w' => ∃ v ρ' n' heap', k v heap' ∧ e = .returned (v.den ρ') ∧ StbX n' ρ' v ∧ HS w Wr ρ' heap' n' w' := by
  unfold runF at h
  split at h
  · rename_i c hb
    refine calls_of_wp hf hb ?_
    have hS : Sat { K with N := fn.ntmps } w Wr ρ n ⟨initEnv 0 args, heap, nid⟩ { tmps := (args.map (CV.den ρ)).toArray ++ Array.replicate (fn.ntmps - (args.map (CV.den ρ)).toArray.size) undef, defers := [] } w := {
      size := by simp; omega
      defers := rfl
      env := fun t e he => by
        obtain ⟨i, v, h1, h2, rfl⟩ := initEnv_mem he
        rw [Nat.zero_add] at h2
        subst h2
        have hlt' : t < args.length := get_lt h1
        refine ⟨fun _ => ⟨?_, hargs v (List.mem_of_getElem? h1)⟩, fun hf => by simp [gBool] at hf⟩
        rw [Array.getElem?_append_left (by simpa using hlt')]
        simp [h1, XV.den]
      hs := hs
      lt := hlt }
    refine wp_mono (run_sound (K := { K with N := fn.ntmps }) hA hT hC hm hL 1000 c _ _ h ρ n _ w hS) fun e a' w' ⟨s', ρ', n', hk, hs'⟩ => ?_
    have fin : (match resX { K with N := fn.ntmps } s' fn.results.toList with | some v => k v s'.heap | none => False) → a'.defers = [] ∧ ∃ v, (results fn a'.tmps).run P w' = .ok v w' ∧ ∃ v', ∃ ρ' n' heap', k v' heap' ∧ Ending.returned v = .returned (v'.den ρ') ∧ StbX n' ρ' v' ∧ HS w Wr ρ' heap' n' w' := by
      intro hk
      split at hk
      · rename_i v hv
        obtain ⟨h1, h2⟩ := resX_sound (K := { K with N := fn.ntmps }) hA hT hs' hv
        exact ⟨hs'.defers, _, h1, v, ρ', n', s'.heap, hk, rfl, h2, hs'.hs⟩
      · exact hk.elim
    cases e with
    | normal => exact fin hk
    | ret => exact fin hk
    | _ => exact hk.elim
  · exact h.elim

end
end Go.Eng
