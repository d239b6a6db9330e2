/- The engine, part I: one operation, in a state. -/
import Derived.Test.YtmajpppjakdodaaEngX
set_option linter.all false
set_option exponentiation.threshold 3000
namespace Go.Eng

/-- the contract of a called function -/
structure CallOK (P : Program) (f : Nat) (sem : Sem') : Prop where
  enters : ∀ (args : Array Value) (w : World), (callFunc f args).run P w = .ok (.enter f args) w
  calls : ∀ (n : Ids) (m : Nat) (args : List CV) (h : Heap) (r : FR), (∀ i, n i → i < m) → sem m args h = some r → (∀ b, b ∈ r.ob → b = true) → ∀ (w0 : World) (Wr : Base) (ρ : Rho) (w : World), HS w0 Wr ρ h n w → (∀ v, v ∈ args → StbV n ρ v) →
    Calls P f (args.map (CV.den ρ)).toArray w fun e w' => ∃ v, e = .returned v ∧ Did w0 Wr ρ h n m w r v w'

/-- what an operation does, its result told -/
def Res (P : Program) (R : Value → World → Prop) : Result Next → Prop
  | .ok (.value v) w' => R v w'
  | .ok .skip w' => R undef w'
  | .ok (.enter f args) w' => Calls P f args w' fun e w'' => ∃ v, e = .returned v ∧ R v w''
  | _ => False

theorem Res.mono {P : Program} {R R' : Value → World → Prop} (h : ∀ v w, R v w → R' v w) {x : Result Next} (hx : Res P R x) : Res P R' x := by
  unfold Res at *
  split at hx
  · exact h _ _ hx
  · exact h _ _ hx
  · exact hx.mono fun e w' ⟨v, he, hr⟩ => ⟨v, he, h _ _ hr⟩
  · exact hx.elim

theorem Res.wp {P : Program} {o : Oper} {a : Act} {w : World} {R : Value → World → Prop} {K : Act → World → Prop} {Q : Exit → Act → World → Prop}
    (hx : Res P R ((execOp a.eval o).run P w)) (h : ∀ v w', R v w' → K (a.put o.dst v) w') : o.wp P a w K Q := by
  unfold Oper.wp
  generalize (execOp a.eval o).run P w = x at *
  cases x with
  | ok nx w' =>
    cases nx <;> simp only [Res] at hx <;> simp only [Oper.upon]
    case value v => exact h _ _ hx
    case skip => exact h _ _ hx
    case enter f args => exact hx.mono fun e w'' ⟨v, he, hr⟩ => by subst he; exact h _ _ hr
  | halt x w' => simp only [Res] at hx

/-- the state of a function under way -/
structure Sat (K : Cx) (w0 : World) (Wr : Base) (ρ : Rho) (n : Ids) (s : St) (a : Act) (w : World) : Prop where
  size : a.tmps.size = K.N
  defers : a.defers = []
  env : ∀ t e, (t, e) ∈ s.env → (gBool K s.env e.gs = true → a.tmps[t]? = some (e.v.den ρ) ∧ StbX n ρ e.v) ∧ (gBool K s.env e.gs = false → a.tmps[t]? = some undef)
  hs : HS w0 Wr ρ s.heap n w
  lt : ∀ i, n i → i < s.nid

section
variable {P : Program} {K : Cx} {w0 : World} {Wr : Base} {ρ : Rho} {n : Ids} {s : St} {a : Act} {w : World} {gs : List (Nat × Bool)}

theorem gBool_cons (hA : K.A = stdA) {env : List (Nat × Ent)} {t : Nat} {b : Bool} {r : List (Nat × Bool)} (h : gBool K env ((t, b) :: r) = true) :
    gBool K env r = true ∧ ∃ e z, look env t = some e ∧ e.v = .c (.s (.bool z)) ∧ z = b := by
  unfold gBool at h
  split at h
  · rename_i g z hl
    split at h
    · refine ⟨rfl, _, z, hl, rfl, ?_⟩
      rw [hA] at h; simpa [stdA] using h
    · rw [hA] at h
      simp only [stdA, Bool.and_eq_true, beq_iff_eq] at h
      exact ⟨h.1, _, z, hl, rfl, h.2⟩
  · simp at h

theorem sufx_gBool (hA : K.A = stdA) {env : List (Nat × Ent)} {g : List (Nat × Bool)} : ∀ {hs : List (Nat × Bool)}, sufx g hs = true → gBool K env hs = true → gBool K env g = true := by
  intro hs
  induction hs with
  | nil =>
    intro h h2
    unfold sufx at h
    split at h
    · rename_i e; simp only [beq_iff_eq] at e; subst e; exact h2
    · simp at h
  | cons x r ih =>
    intro h h2
    unfold sufx at h
    split at h
    · rename_i e; simp only [beq_iff_eq] at e; subst e; exact h2
    · obtain ⟨t, b⟩ := x
      exact ih h (gBool_cons hA h2).1

theorem look_mem {α : Type} {l : List (Nat × α)} {t : Nat} {e : α} (h : look l t = some e) : (t, e) ∈ l := by
  induction l with
  | nil => simp [look] at h
  | cons x r ih =>
    obtain ⟨j, v⟩ := x
    simp only [look] at h
    split at h
    · rename_i hj
      simp only [beq_iff_eq] at hj
      simp only [Option.some.injEq] at h
      subst hj h
      exact List.mem_cons_self ..
    · exact List.mem_cons_of_mem _ (ih h)

theorem rdE_sound (hA : K.A = stdA) (hs : Sat K w0 Wr ρ n s a w) (hg : gBool K s.env gs = true) {t : Nat} {v : XV} (e : rdE s.env gs t = some v) :
    a.tmps[t]? = some (v.den ρ) ∧ StbX n ρ v := by
  unfold rdE at e
  split at e
  · rename_i en hl
    split at e
    · rename_i hsu
      have hv : en.v = v := by
        split at e
        · simp at e
        · simpa using e
      subst hv
      exact (hs.env t en (look_mem hl)).1 (sufx_gBool hA hsu hg)
    · simp at e
  · simp at e

theorem const_sound {v : Value} {x : Sc} (e : constSc v = some x) : v = x.den ρ ∧ ∀ ρ', x.den ρ' = x.den ρ := by
  unfold constSc at e
  split at e <;> first
    | (simp only [Option.some.injEq] at e; subst e; exact ⟨rfl, fun _ => rfl⟩)
    | simp at e

theorem rdX_sound (hA : K.A = stdA) (hs : Sat K w0 Wr ρ n s a w) (hg : gBool K s.env gs = true) {x : Operand} {v : XV} (e : rdX s.env gs x = some v) :
    a.eval x = v.den ρ ∧ StbX n ρ v := by
  unfold rdX at e
  split at e
  · obtain ⟨h1, h2⟩ := rdE_sound hA hs hg e
    exact ⟨by simp [Act.eval, h1], h2⟩
  · split at e
    · rename_i x hx
      simp only [Option.some.injEq] at e
      subst e
      obtain ⟨h1, h2⟩ := const_sound (ρ := ρ) hx
      exact ⟨h1, fun ρ' _ => h2 ρ'⟩
    · simp at e
  · simp only [Option.some.injEq] at e
    subst e
    exact ⟨rfl, fun _ _ => rfl⟩
  · simp at e

theorem rdC_sound (hA : K.A = stdA) (hs : Sat K w0 Wr ρ n s a w) (hg : gBool K s.env gs = true) {x : Operand} {v : CV} (e : rdC s.env gs x = some v) :
    a.eval x = v.den ρ ∧ StbV n ρ v := by
  unfold rdC at e
  split at e
  · rename_i v' hv
    simp only [Option.some.injEq] at e
    subst e
    exact rdX_sound hA hs hg hv
  · simp at e

theorem rdS_sound (hA : K.A = stdA) (hs : Sat K w0 Wr ρ n s a w) (hg : gBool K s.env gs = true) {x : Operand} {v : Sc} (e : rdS s.env gs x = some v) :
    a.eval x = v.den ρ ∧ StbV n ρ (.s v) := by
  unfold rdS at e
  split at e
  · rename_i v' hv
    simp only [Option.some.injEq] at e
    subst e
    exact rdX_sound hA hs hg hv
  · simp at e

theorem rdO_sound (hA : K.A = stdA) (hs : Sat K w0 Wr ρ n s a w) (hg : gBool K s.env gs = true) {x : Option Operand} {v : Option Sc} (e : rdO s.env gs x = some v) :
    x.map a.eval = v.map (Sc.den ρ) := by
  unfold rdO at e
  split at e
  · simp only [Option.some.injEq] at e; subst e; rfl
  · split at e
    · rename_i y hy
      simp only [Option.some.injEq] at e; subst e
      simp only [Option.map_some]
      rw [(rdS_sound hA hs hg hy).1]
    · simp at e

theorem rdS_tmp {env : List (Nat × Ent)} {t : Nat} {x : Sc} (hc : rdS env gs (.tmp t) = some x) : ∃ en, look env t = some en ∧ en.v = .c (.s x) := by
  unfold rdS at hc
  split at hc
  · rename_i v' hv
    simp only [Option.some.injEq] at hc
    subst hc
    have hv' : rdE env gs t = some (.c (.s v')) := hv
    unfold rdE at hv'
    split at hv'
    · rename_i en hl
      split at hv'
      · split at hv'
        · simp at hv'
        · exact ⟨en, hl, by simpa using hv'⟩
      · simp at hv'
    · simp at hv'
  · simp at hc

theorem rdParts_sound (hA : K.A = stdA) (hs : Sat K w0 Wr ρ n s a w) (hg : gBool K s.env gs = true) : ∀ {l : List (Nat × Operand)} {ps : List (Nat × CV)}, rdParts s.env gs l = some ps →
    (l.map fun p => (p.1, a.eval p.2)) = (ps.map fun p => (p.1, p.2.den ρ)) ∧ ∀ p, p ∈ ps → StbV n ρ p.2
  | [], ps, e => by simp only [rdParts, Option.some.injEq] at e; subst e; exact ⟨rfl, fun _ h => by simp at h⟩
  | (i, x) :: r, ps, e => by
    simp only [rdParts] at e
    split at e
    · rename_i v l hv hl
      simp only [Option.some.injEq] at e
      subst e
      obtain ⟨h1, h2⟩ := rdC_sound hA hs hg hv
      obtain ⟨h3, h4⟩ := rdParts_sound hA hs hg hl
      refine ⟨by simp [h1, h3], fun p hp => ?_⟩
      simp only [List.mem_cons] at hp
      rcases hp with rfl | hp
      · exact h2
      · exact h4 p hp
    · simp at e

theorem rdArgs_sound (hA : K.A = stdA) (hs : Sat K w0 Wr ρ n s a w) (hg : gBool K s.env gs = true) : ∀ {l : List Operand} {vs : List CV}, rdArgs s.env gs l = some vs →
    l.map a.eval = vs.map (CV.den ρ) ∧ ∀ v, v ∈ vs → StbV n ρ v
  | [], ps, e => by simp only [rdArgs, Option.some.injEq] at e; subst e; exact ⟨rfl, fun _ h => by simp at h⟩
  | x :: r, ps, e => by
    simp only [rdArgs] at e
    split at e
    · rename_i v l hv hl
      simp only [Option.some.injEq] at e
      subst e
      obtain ⟨h1, h2⟩ := rdC_sound hA hs hg hv
      obtain ⟨h3, h4⟩ := rdArgs_sound hA hs hg hl
      refine ⟨by simp [h1, h3], fun p hp => ?_⟩
      simp only [List.mem_cons] at hp
      rcases hp with rfl | hp
      · exact h2
      · exact h4 p hp
    · simp at e

/-- a result without effect -/
theorem Did.pure {h : Heap} {m : Nat} (hs : HS w0 Wr ρ h n w) {ob : List Bool} {v : XV} (hv : StbX n ρ v) : Did w0 Wr ρ h n m w ⟨ob, v, [], []⟩ (v.den ρ) w :=
  ⟨ρ, Agree.refl _ _, rfl, hv.mono fun _ => addI_old, hs.addI0, But.of (RowKit.Below.refl _ _), fun i x h1 h2 => by simp at h2; omega⟩

theorem ps_res {h : Heap} {m : Nat} (hs : HS w0 Wr ρ h n w) {r : FR} {x : Sem Value} (hp : PS P w ρ n r x) (hob : ∀ b, b ∈ r.ob → b = true) :
    Res P (Did w0 Wr ρ h n m w r) (((do pure (.value (← x))) : Sem Next).run P w) := by
  obtain ⟨v, h1, h2, h3, h4⟩ := hp
  obtain ⟨h5, h6⟩ := h4 hob
  rw [Sem.run_bind, h5]
  show Did w0 Wr ρ h n m w r (v.den ρ) w
  obtain ⟨ob, val, new, wr⟩ := r
  simp only at h1 h2 h3
  subst h1 h2 h3
  exact Did.pure (m := m) (v := .c v) hs h6

/-- the contracts of all callees -/
def COK (P : Program) (C : Nat → Option Sem') : Prop := ∀ f sem, C f = some sem → CallOK P f sem

theorem evMM_sound {P : Program} {f : Int → Int → Int} {g : Value → Value → Sem Value} {k : IntKind} (hg : ∀ a b w, (g (.int k a) (.int k b)).run P w = .ok (.int k (f a b)) w) :
    ∀ (l : List CV) (n : Int) {r : FR}, evMM f k n l = some r → ∃ v : Int, (∀ ρ w, ((l.map (CV.den ρ)).foldlM g (.int k n)).run P w = .ok (.int k v) w) ∧ r = ⟨[], .c (.s (.int k v)), [], []⟩
  | [], n, r, e => by
    simp only [evMM, pureR, Option.some.injEq] at e
    exact ⟨n, fun _ _ => rfl, e.symm⟩
  | .s x :: l, n, r, e => by
    simp only [evMM] at e
    split at e
    · rename_i lit k' m hm
      split at e
      · rename_i hk
        subst hk
        obtain ⟨v, h1, h2⟩ := evMM_sound hg l _ e
        refine ⟨v, fun ρ w => ?_, h2⟩
        simp only [List.map_cons, List.foldlM_cons, Sem.run_bind, CV.den, num_den hm, hg, Result.andThen_ok]
        exact h1 ρ w
      · simp at e
    · simp at e
  | .g _ :: _, _, _, e => by simp [evMM] at e

theorem evOp_sound (hA : K.A = stdA) (hT : TOK P K.T) (hC : COK P K.C) (hs : Sat K w0 Wr ρ n s a w) (hg : gBool K s.env gs = true) {o : Oper} {r : FR} (e : evOp K s gs o.op = some r) (hob : ∀ b, b ∈ r.ob → b = true) :
    Res P (Did w0 Wr ρ s.heap n s.nid w r) ((execOp a.eval o).run P w) := by
  unfold execOp
  unfold evOp at e
  split at e
  · -- move
    rename_i x ho
    rw [ho]
    split at e
    · rename_i v hv
      simp only [Option.some.injEq] at e
      subst e
      obtain ⟨h1, h2⟩ := rdX_sound hA hs hg hv
      simp only [h1]
      exact Did.pure hs.hs h2
    · simp at e
  · -- assign
    rename_i x ho
    rw [ho]
    split at e
    · rename_i v hv
      simp only [Option.some.injEq] at e
      subst e
      obtain ⟨h1, h2⟩ := rdX_sound hA hs hg hv
      simp only [h1]
      exact Did.pure hs.hs h2
    · simp at e
  · -- pick
    rename_i c x y ho
    rw [ho]
    split at e
    · rename_i t
      split at e
      · rename_i hc
        obtain ⟨h1, _⟩ := rdS_sound hA hs hg hc
        split at e
        · rename_i v hv
          simp only [Option.some.injEq] at e
          subst e
          obtain ⟨h3, h4⟩ := rdX_sound hA hs hg hv
          simp only [h1, Sc.den, asBool, Sem.run_bind, Sem.run_pure, Result.andThen_ok, if_true, h3]
          exact Did.pure hs.hs h4
        · simp at e
      · rename_i hc
        obtain ⟨h1, _⟩ := rdS_sound hA hs hg hc
        split at e
        · rename_i v hv
          simp only [Option.some.injEq] at e
          subst e
          obtain ⟨h3, h4⟩ := rdX_sound hA hs hg hv
          simp only [h1, Sc.den, asBool, Sem.run_bind, Sem.run_pure, Result.andThen_ok, Bool.false_eq_true, if_false, h3]
          exact Did.pure hs.hs h4
        · simp at e
      · rename_i z hc
        obtain ⟨h1, _⟩ := rdS_sound hA hs hg hc
        have hz := rdS_tmp hc
        obtain ⟨en, hl, hen⟩ := hz
        have hgw : ∀ b : Bool, z = b → gBool K s.env ((t, b) :: gs) = true := by
          intro b hb
          obtain ⟨eg, ev⟩ := en
          simp only at hen
          subst hen
          subst hb
          unfold gBool
          rw [hl]
          cases gs with
          | nil => simp [hA, stdA]
          | cons g r => simp [hA, stdA, hg]
        split at e
        · rename_i xv yv hx hy
          split at e
          · rename_i l1 p l2 q hp hq
            simp only [pureR, Option.some.injEq] at e
            subst e
            simp only [h1, Sc.den, asBool, Sem.run_bind, Sem.run_pure, Result.andThen_ok]
            have key : (if z = true then a.eval x else a.eval y) = (Sc.bool (K.A.ite z p q)).den ρ := by
              rw [hA]
              cases z with
              | true =>
                obtain ⟨h3, _⟩ := rdS_sound hA hs (hgw true rfl) hx
                simp only [if_true, h3, boo_den hp]; rfl
              | false =>
                obtain ⟨h3, _⟩ := rdS_sound hA hs (hgw false rfl) hy
                simp only [Bool.false_eq_true, if_false, h3, boo_den hq]; rfl
            have := Did.pure (m := s.nid) (v := .c (.s (.bool (K.A.ite z p q)))) (ob := []) hs.hs (fun _ _ => rfl)
            show Did w0 Wr ρ s.heap n s.nid w _ (if z = true then a.eval x else a.eval y) w
            rw [key]
            exact this
          · simp at e
        · simp at e
      · simp at e
    · simp at e
  · -- alloc
    rename_i t ho
    rw [ho]
    split at e
    · rename_i i ht
      split at e
      · rename_i hnu
        simp only [Option.some.injEq] at e
        subst e
        have ty := hT _ _ ht
        have hzs : StbL n ρ i.zero.atoms := fun ρ' _ => (ty.zst ρ').trans (ty.zst ρ).symm
        have hrun : (Instr.alloc t true (.tuple #[])).run P w = .ok (.pointer (some ⟨w.heap.size, 0, none⟩)) (w.alloc (.cells (flats ρ i.zero.atoms).toArray t)) := by
          have hz := ty.zero
          cases hq : P.info? t with
          | none => simp [hq] at hz
          | some it =>
            simp only [hq, Option.bind_some] at hz
            have hc : (i.zero.den rho0).cells = (flats ρ i.zero.atoms).toArray := by rw [den_cells (fun _ => rfl) hnu, ty.zst ρ]
            simp [Instr.alloc, zeroValue, typeInfo, hq, hz, run_newVar', hc]
        simp only [Sem.run_bind, hrun, Result.andThen_ok, Sem.run_pure]
        exact new_Did hs.hs hs.lt hzs
      · simp at e
    · simp at e
  · -- box
    rename_i t x ho
    rw [ho]
    split at e
    · rename_i i v ht hv
      split at e
      · rename_i hc
        simp only [Bool.and_eq_true, beq_iff_eq] at hc
        simp only [Option.some.injEq] at e
        subst e
        obtain ⟨h1, h2⟩ := rdC_sound hA hs hg hv
        have hcells := den_cells hs.hs.one hc.2
        have hrun : (Instr.box t (v.den ρ)).run P w = .ok (.pointer (some ⟨w.heap.size, 0, none⟩)) (w.alloc (.cells (flats ρ v.atoms).toArray t)) := by
          simp [Instr.box, run_newVar', hcells]
        simp only [h1, Sem.run_bind, hrun, Result.andThen_ok, Sem.run_pure]
        exact new_Did hs.hs hs.lt (stb_atoms h2)
      · simp at e
    · simp at e
  · -- build
    rename_i t ps ho
    rw [ho]
    split at e
    · rename_i l hl
      obtain ⟨h1, h2⟩ := rdParts_sound hA hs hg hl
      refine ps_res hs.hs (build_PS (w := w) hA hT hs.hs.one (fun p hp => stb_atoms (h2 p hp)) e ?_) hob
      rw [Array.toList_map]
      exact h1
    · simp at e
  · -- buildSlice
    rename_i t m ps ho
    rw [ho]
    split at e
    · rename_i i l ht hl
      split at e
      · rename_i el esz k hel
        split at e
        · rename_i es hes
          split at e
          · rename_i hc
            simp only [Bool.and_eq_true, beq_iff_eq, decide_eq_true_eq] at hc
            simp only [Option.some.injEq] at e
            subst e
            obtain ⟨h1, h2⟩ := rdParts_sound hA hs hg hl
            have hbs := buildSlice_sound (w := w) hT ht hel hs.hs.one hes hc.1.1 hc.1.2 hc.2 (parts := ps.map fun x => (x.1, a.eval x.2)) (by rw [Array.toList_map]; exact h1)
            obtain ⟨T, hrun⟩ := hbs
            have : (Instr.buildSlice t m (ps.map fun x => (x.1, a.eval x.2))).run P w = .ok (.slice (some ⟨w.heap.size, 0, none⟩) m m) (w.alloc (.cells (k.flat es).toArray T)) := hrun
            simp only [Sem.run_bind, this, Result.andThen_ok, Sem.run_pure]
            exact newVec_Did hs.hs hs.lt hc.1.1
          · simp at e
        · simp at e
      · simp at e
    · simp at e
  · -- load
    rename_i t x ho
    rw [ho]
    split at e
    · rename_i p hp
      obtain ⟨h1, h2⟩ := rdS_sound hA hs hg hp
      simp only [h1]
      exact ps_res hs.hs (load_PS hA hT hs.hs e) hob
    · simp at e
  · -- store
    rename_i t x y ho
    rw [ho]
    split at e
    · rename_i p v hp hv
      obtain ⟨h1, h2⟩ := rdS_sound hA hs hg hp
      obtain ⟨h3, h4⟩ := rdC_sound hA hs hg hv
      obtain ⟨w', h5, h6⟩ := store_Did (w := w) hA hT hs.hs (stb_atoms h4) e hob
      simp only [h1, h3, Sem.run_bind, h5, Result.andThen_ok, Sem.run_pure]
      exact h6
    · simp at e
  · -- nilCheck
    rename_i x ho
    rw [ho]
    split at e
    · rename_i id off hp
      obtain ⟨h1, h2⟩ := rdS_sound hA hs hg hp
      split at e
      · rename_i own l hl
        obtain ⟨b, o', h3, h4, h5, h6, h7, h8⟩ := hs.hs.fix hl
        simp only [pureR, Option.some.injEq] at e
        subst e
        simp only [h1, hp_den h3, Sem.run_pure]
        have := Did.pure (m := s.nid) (v := .c (.s (.hp id off))) (ob := []) hs.hs h2
        have h9 : (XV.c (.s (.hp id off))).den ρ = .pointer (some ⟨b, o' + off, none⟩) := hp_den h3
        rw [h9] at this
        exact this
      · simp at e
    · simp at e
  · -- binOp
    rename_i op t x y yt ho
    rw [ho]
    split at e
    · rename_i p q hp hq
      obtain ⟨h1, _⟩ := rdC_sound hA hs hg hp
      obtain ⟨h2, _⟩ := rdC_sound hA hs hg hq
      simp only [h1, h2]
      exact ps_res hs.hs (bin_PS hA hT e) hob
    · simp at e
  · -- unOp
    rename_i op t x ho
    rw [ho]
    split at e
    · rename_i p hp
      obtain ⟨h1, _⟩ := rdS_sound hA hs hg hp
      simp only [h1]
      exact ps_res hs.hs (un_PS hA e) hob
    · simp at e
  · -- convert
    rename_i src dst x ho
    rw [ho]
    split at e
    · rename_i p hp
      obtain ⟨h1, _⟩ := rdS_sound hA hs hg hp
      simp only [h1]
      split at e
      · exact ps_res hs.hs (conv_PS hA hT e) hob
      · exact ps_res hs.hs (bytes_PS hA hT hs.hs e) hob
    · simp at e
  · -- sliceToArrayPointer
    rename_i t x ho
    rw [ho]
    split at e
    · rename_i p hp
      obtain ⟨h1, _⟩ := rdS_sound hA hs hg hp
      simp only [h1]
      exact ps_res hs.hs (s2a_PS hA hT hs.hs e) hob
    · simp at e
  · -- makeSlice
    rename_i t l c ho
    rw [ho]
    split at e
    · rename_i p q hp hq
      obtain ⟨h1, _⟩ := rdS_sound hA hs hg hp
      obtain ⟨h2, _⟩ := rdS_sound hA hs hg hq
      obtain ⟨v, w', h3, h4⟩ := make_Did (w := w) hA hT hs.hs hs.lt e hob
      simp only [h1, h2, Sem.run_bind, h3, Result.andThen_ok, Sem.run_pure]
      exact h4
    · simp at e
  · -- fieldAddr
    rename_i t x f ho
    rw [ho]
    split at e
    · rename_i p hp
      obtain ⟨h1, _⟩ := rdS_sound hA hs hg hp
      simp only [h1]
      exact ps_res hs.hs (field_PS hA hT hs.hs e) hob
    · simp at e
  · -- indexAddr
    rename_i t x i ho
    rw [ho]
    split at e
    · rename_i p j hp hj
      obtain ⟨h1, _⟩ := rdS_sound hA hs hg hp
      obtain ⟨h2, _⟩ := rdS_sound hA hs hg hj
      simp only [h1, h2]
      exact ps_res hs.hs (idx_PS hA hT hs.hs e) hob
    · simp at e
  · -- index
    rename_i t x i ho
    rw [ho]
    split at e
    · rename_i p j hp hj
      obtain ⟨h1, _⟩ := rdC_sound hA hs hg hp
      obtain ⟨h2, _⟩ := rdS_sound hA hs hg hj
      simp only [h1, h2]
      exact ps_res hs.hs (at_PS hA hT e) hob
    · rename_i l j hp hj
      obtain ⟨h1, _⟩ := rdC_sound hA hs hg hp
      obtain ⟨h2, _⟩ := rdS_sound hA hs hg hj
      simp only [h1, h2]
      exact ps_res hs.hs (pick_PS hA hT e) hob
    · simp at e
  · -- slice
    rename_i t x lo hi mx ho
    rw [ho]
    split at e
    · rename_i p la lb hp hla hlb
      obtain ⟨h1, _⟩ := rdS_sound hA hs hg hp
      have h2 := rdO_sound hA hs hg hla
      have h3 := rdO_sound hA hs hg hlb
      simp only [h1, h2, h3]
      exact ps_res hs.hs (slice_PS hA hT hs.hs e) hob
    · simp at e
  · -- extract
    rename_i x i ho
    rw [ho]
    split at e
    · rename_i l hl
      obtain ⟨h1, h2⟩ := rdX_sound hA hs hg hl
      split at e
      · rename_i v hv
        refine ps_res hs.hs (PS.pure e ?_ fun ρ' ha => ?_) hob
        · simp only [h1, XV.den, Instr.extract]
          simp [hv]
        · have h3 := h2 ρ' ha
          simp only [XV.den, Value.tuple.injEq] at h3
          have h4 := congrArg (fun x => x[i]?) h3
          simpa [hv] using h4
      · simp at e
    · simp at e
  · -- call
    rename_i c ho
    rw [ho]
    split at e
    · rename_i f hcal
      split at e
      · rename_i sem l hsem hl
        obtain ⟨h1, h2⟩ := rdArgs_sound hA hs hg hl
        have hco := hC _ _ hsem
        have hargs : c.args.map a.eval = (l.map (CV.den ρ)).toArray := by
          apply Array.ext'
          simpa using h1
        simp only [resolve, hcal, Act.eval, Deferred.ofValue, Sem.run_bind, Sem.run_pure, Result.andThen_ok, invoke]
        have : (callFunc f (#[] ++ c.args.map a.eval ++ #[])).run P w = .ok (.enter f (l.map (CV.den ρ)).toArray) w := by
          rw [hco.enters]
          simp [hargs]
        rw [this]
        exact hco.calls _ _ _ _ _ hs.lt e hob _ _ _ _ hs.hs h2
      · simp at e
    · rename_i hcal
      have hlen : ∀ (v : Value) (n c' : Nat) (x : Option Addr), isSl K c.argTypes.toList = true → c.args.map a.eval = #[v] → v = .slice x n c' →
          (do let d ← resolve a.eval c o.type; invoke d.target d.args : Sem Next).run P w = .ok (.value (.int .i64 n)) w := by
        intro v n c' x hsl hargs hv
        subst hv
        have ht : ∃ t el, c.argTypes[0]? = some t ∧ P.underlying t = some (.slice el) := by
          unfold isSl at hsl
          split at hsl
          · rename_i t hty
            split at hsl
            · rename_i i hi
              obtain ⟨⟨el, z, k⟩, hel⟩ := Option.isSome_iff_exists.1 hsl
              refine ⟨t, el, ?_, ((hT _ _ hi).elem _ _ _ hel).1⟩
              have := congrArg (fun l => l[0]?) hty
              simpa using this
            · simp at hsl
          · simp at hsl
        obtain ⟨t, el, h3, h4⟩ := ht
        simp only [resolve, hcal, Sem.run_bind, Sem.run_pure, Result.andThen_ok, invoke, builtin, hargs]
        simp [Builtin.len_, h3, run_underlying h4, goInt]
      split at e
      · rename_i id hsl hl
        obtain ⟨h1, h2⟩ := rdArgs_sound hA hs hg hl
        have hargs : c.args.map a.eval = #[ρ id] := by
          apply Array.ext'
          simpa [CV.den, Sc.den] using h1
        split at e
        · rename_i own k l hlk
          obtain ⟨_, ⟨base, cap, h3, _⟩, _⟩ := hs.hs.ok _ _ hlk
          simp only [pureR, Option.some.injEq] at e
          subst e
          rw [hlen _ _ _ _ hsl hargs h3]
          have := Did.pure (m := s.nid) (v := .c (.s (.int .i64 (K.A.len l)))) (ob := []) hs.hs (fun _ _ => rfl)
          rw [hA] at this ⊢
          exact this
        · simp at e
      · rename_i id z lo hi hsl hl
        obtain ⟨h1, h2⟩ := rdArgs_sound hA hs hg hl
        have hargs : c.args.map a.eval = #[(Sc.hw id z lo hi).den ρ] := by
          apply Array.ext'
          simpa [CV.den] using h1
        split at e
        · rename_i own k l hlk
          obtain ⟨_, ⟨base, cap, h3, _⟩, _⟩ := hs.hs.ok _ _ hlk
          simp only [pureO, Option.some.injEq] at e
          subst e
          rw [hA] at hob ⊢
          simp only [List.forall_mem_cons, stdA, stdCmp, decide_eq_true_eq] at hob
          obtain ⟨g0, g1, -⟩ := hob
          have h4 : (Sc.hw id z lo hi).den ρ = .slice (if cap = lo.toNat then base else base.map (·.add (lo.toNat * z))) (hi.toNat - lo.toNat) (cap - lo.toNat) := by
            simp only [Sc.den, h3]
          rw [hlen _ _ _ _ hsl hargs h4]
          have e1 : ((hi.toNat - lo.toNat : Nat) : Int) = hi - lo := by omega
          rw [e1]
          exact Did.pure (m := s.nid) (v := .c (.s (.int .i64 (hi - lo)))) hs.hs (fun _ _ => rfl)
        · simp at e
      · rename_i hsl hl
        obtain ⟨h1, h2⟩ := rdArgs_sound hA hs hg hl
        have hargs : c.args.map a.eval = #[.slice none 0 0] := by
          apply Array.ext'
          simpa [CV.den, Sc.den] using h1
        simp only [pureR, Option.some.injEq] at e
        subst e
        rw [hlen _ _ _ _ hsl hargs rfl]
        exact Did.pure (m := s.nid) (v := .c (.s (.lit .i64 0))) (ob := []) hs.hs (fun _ _ => rfl)
      · rename_i id off z lo hi cp hsl hl
        obtain ⟨h1, h2⟩ := rdArgs_sound hA hs hg hl
        have hargs : c.args.map a.eval = #[(Sc.ha id off z lo hi cp).den ρ] := by
          apply Array.ext'
          simpa [CV.den] using h1
        split at e
        · rename_i own l hlk
          obtain ⟨b, o', h3, h4, h5, h6, h7, h8⟩ := hs.hs.fix hlk
          simp only [pureO, Option.some.injEq] at e
          subst e
          rw [hA] at hob ⊢
          simp only [List.forall_mem_cons, stdA, stdCmp, decide_eq_true_eq] at hob
          obtain ⟨g0, g1, -⟩ := hob
          rw [hlen _ _ _ _ hsl hargs (ha_den h3)]
          have e1 : ((hi.toNat - lo.toNat : Nat) : Int) = hi - lo := by omega
          rw [e1]
          exact Did.pure (m := s.nid) (v := .c (.s (.int .i64 (hi - lo)))) hs.hs (fun _ _ => rfl)
        · simp at e
      · rename_i x hsl hl
        split at e
        · rename_i hstr
          obtain ⟨h1, h2⟩ := rdArgs_sound hA hs hg hl
          have hargs : c.args.map a.eval = #[.string x] := by
            apply Array.ext'
            simpa [CV.den, Sc.den] using h1
          have ht : ∃ t, c.argTypes[0]? = some t ∧ P.underlying t = some .string := by
            unfold isStr at hstr
            split at hstr
            · rename_i t hty
              split at hstr
              · rename_i i hi
                simp only [beq_iff_eq] at hstr
                refine ⟨t, ?_, (hT _ _ hi).str hstr⟩
                have := congrArg (fun l => l[0]?) hty
                simpa using this
              · simp at hstr
            · simp at hstr
          obtain ⟨t, h3, h4⟩ := ht
          simp only [pureR, Option.some.injEq] at e
          subst e
          have hrun : (do let d ← resolve a.eval c o.type; invoke d.target d.args : Sem Next).run P w = .ok (.value (.int .i64 x.size)) w := by
            simp only [resolve, hcal, Sem.run_bind, Sem.run_pure, Result.andThen_ok, invoke, builtin, hargs]
            simp [Builtin.len_, h3, run_underlying h4, goInt]
          rw [hrun]
          have := Did.pure (m := s.nid) (v := .c (.s (.int .i64 (K.A.slen x)))) (ob := []) hs.hs (fun _ _ => rfl)
          rw [hA] at this ⊢
          exact this
        · simp at e
      · simp at e
    · rename_i hcal
      split at e
      · rename_i x y hl
        obtain ⟨h1, h2⟩ := rdArgs_sound hA hs hg hl
        have hargs : c.args.map a.eval = #[x.den ρ, y.den ρ] := by
          apply Array.ext'
          simpa [CV.den] using h1
        obtain ⟨v, w', h3, h4⟩ := app_Did (w := w) hA hT hs.hs hs.lt e hob o.type
        simp only [Array.toArray_toList] at h3
        simp only [resolve, hcal, Sem.run_bind, Sem.run_pure, Result.andThen_ok, invoke, builtin, hargs, h3]
        exact h4
      · simp at e
    · rename_i hcal
      split at e
      · rename_i x y hl
        obtain ⟨h1, h2⟩ := rdArgs_sound hA hs hg hl
        have hargs : c.args.map a.eval = #[x.den ρ, y.den ρ] := by
          apply Array.ext'
          simpa [CV.den] using h1
        obtain ⟨v, w', h3, h4⟩ := copy_Did (m := s.nid) (w := w) hA hT hs.hs e hob o.type
        simp only [Array.toArray_toList] at h3
        simp only [resolve, hcal, Sem.run_bind, Sem.run_pure, Result.andThen_ok, invoke, builtin, hargs, h3]
        exact h4
      · simp at e
    · rename_i hcal
      split at e
      · rename_i x l hl
        obtain ⟨h1, h2⟩ := rdArgs_sound hA hs hg hl
        split at e
        · rename_i b k n hn
          obtain ⟨v, h3, h4⟩ := evMM_sound (P := P) (f := K.A.mn) (g := Builtin.min2) (fun a b w => by rw [hA]; simp [Builtin.min2, stdA]) l n e
          subst h4
          have hargs : (c.args.map a.eval).toList = .int k n :: l.map (CV.den ρ) := by
            simpa [CV.den, num_den hn] using h1
          simp only [resolve, hcal, Sem.run_bind, Sem.run_pure, Result.andThen_ok, invoke, builtin, Builtin.min_, hargs, h3, Result.andThen_ok]
          exact Did.pure (m := s.nid) (v := .c (.s (.int k v))) (ob := []) hs.hs (fun _ _ => rfl)
        · simp at e
      · simp at e
    · rename_i hcal
      split at e
      · rename_i x l hl
        obtain ⟨h1, h2⟩ := rdArgs_sound hA hs hg hl
        split at e
        · rename_i b k n hn
          obtain ⟨v, h3, h4⟩ := evMM_sound (P := P) (f := K.A.mx) (g := Builtin.max2) (fun a b w => by rw [hA]; simp [Builtin.max2, stdA]) l n e
          subst h4
          have hargs : (c.args.map a.eval).toList = .int k n :: l.map (CV.den ρ) := by
            simpa [CV.den, num_den hn] using h1
          simp only [resolve, hcal, Sem.run_bind, Sem.run_pure, Result.andThen_ok, invoke, builtin, Builtin.max_, hargs, h3, Result.andThen_ok]
          exact Did.pure (m := s.nid) (v := .c (.s (.int k v))) (ob := []) hs.hs (fun _ _ => rfl)
        · simp at e
      · simp at e
    · simp at e
  · simp at e

end
end Go.Eng
