/- The engine, part T: long functions gone through piece by piece. -/
import Derived.Test.YtmajpppjakdodaaEngS
set_option linter.all false
set_option exponentiation.threshold 3000
namespace Go.Eng

theorem allT_mono : ∀ {l : List Bool} {p q : Prop}, (p → q) → AllT l p → AllT l q
  | [], _, _, h, hp => h hp
  | _ :: _, _, _, h, hp => ⟨hp.1, allT_mono h hp.2⟩

/-- one code behind another one: the first with what comes behind it unopened -/
theorem run_seq_cut {K : Cx} {n : Nat} {a b : Code} {s : St} {k : Exit → St → Prop}
    (h : ∀ kk : Exit → St → Prop, (∀ s', run K n b s' k → kk .normal s') → (∀ e s', e ≠ .normal → k e s' → kk e s') → run K n a s kk) : run K (n + 1) (.seq a b) s k :=
  h (fun e s' => match e with
    | .normal => run K n b s' k
    | e => k e s') (fun _ h => h) (fun e s' he hk => by cases e <;> first | exact absurd rfl he | exact hk)

/-- a function's code, told -/
theorem runF_body {K : Cx} {fn : Func} {c : Code} (hb : fn.body = some c) {args : List CV} {heap : Heap} {nid : Nat} {k : XV → Heap → Prop}
    (h : run { K with N := fn.ntmps } 1000 c ⟨initEnv 0 args, heap, nid⟩ fun e s => match e with
      | .normal => match resX { K with N := fn.ntmps } s fn.results.toList with
        | some v => k v s.heap
        | none => False
      | .ret => match resX { K with N := fn.ntmps } s fn.results.toList with
        | some v => k v s.heap
        | none => False
      | _ => False) : runF K fn args heap nid k := by
  unfold runF
  rw [hb]
  exact h

/-- what is left of a region's front, then its tail -/
def Dr (K : Cx) (full : List Oper) (heap : Heap) (tl : List Oper) (len : Nat) (k : St → Prop) (l : List Oper) (q : FS) : Prop :=
  match frontOps K full heap l q with
  | some q => if tailOK q.F tl len then AllT q.ob (runOps K full tl ⟨q.env, hsub heap q.F 0 (fun _ => true), q.id⟩ k) else False
  | none => False

theorem frontOps_app {K : Cx} {full : List Oper} {heap : Heap} : ∀ (l m : List Oper) (q : FS), frontOps K full heap (l ++ m) q = match frontOps K full heap l q with
    | some q' => frontOps K full heap m q'
    | none => none
  | [], m, q => rfl
  | o :: l, m, q => by
    simp only [List.cons_append, frontOps]
    split
    · rename_i q' h; exact frontOps_app l m q'
    · rfl

theorem Dr_cut {K : Cx} {full : List Oper} {heap : Heap} {tl : List Oper} {len : Nat} {k : St → Prop} {l : List Oper} {q : FS} (m : Nat)
    (h : ∀ P : FS → Prop, (∀ q', Dr K full heap tl len k (l.drop m) q' → P q') → match frontOps K full heap (l.take m) q with
      | some q' => P q'
      | none => False) : Dr K full heap tl len k l q := by
  have h1 := h (Dr K full heap tl len k (l.drop m)) (fun _ h => h)
  have e := frontOps_app (K := K) (full := full) (heap := heap) (l.take m) (l.drop m) q
  rw [List.take_append_drop] at e
  unfold Dr
  rw [e]
  split at h1
  · exact h1
  · exact h1.elim

/-- a region that draws its order: its front is to be gone through piece by piece -/
theorem Dr_run {K : Cx} {n i : Nat} {ops : Array Oper} {s : St} {kk : Exit → St → Prop} (hfo : forced frontKind ops.toList = true)
    (h : Dr K ops.toList s.heap (ops.toList.dropWhile (fun o => frontKind o.op)) (ops.toList.takeWhile (fun o => frontKind o.op)).length (fun s' => kk .normal { s' with env := prune K.un.keep (clean s'.env) })
      (ops.toList.takeWhile (fun o => frontKind o.op)) ⟨clean s.env, [], [], s.nid⟩) : run K (n + 1) (.region i ops true) s kk := by
  unfold run runDraw
  simp only [hfo]
  unfold runDrawBy
  simp only
  unfold Dr at h
  split at h
  · rename_i q hq
    simp only [hq]
    split at h
    · rename_i ht; rw [if_pos ht]; exact h
    · exact h.elim
  · exact h.elim

theorem ho_cons {a : Bool} {l : List Bool} (h : ∀ b, b ∈ a :: l → b = true) : a = true ∧ ∀ b, b ∈ l → b = true :=
  ⟨h a (List.mem_cons_self ..), fun b hb => h b (List.mem_cons_of_mem _ hb)⟩

/-- arguments that are numbers of these kinds -/
def ints : List IntKind → List CV → Option (List Int)
  | [], [] => some []
  | k :: ks, .s (.int k' n) :: r => if k = k' then match ints ks r with
    | some l => some (n :: l)
    | none => none else none
  | _, _ => none

theorem ints_eq : ∀ {ks : List IntKind} {args : List CV} {l : List Int}, ints ks args = some l → args = List.zipWith (fun k n => CV.s (.int k n)) ks l
  | [], [], l, h => by simp [ints] at h; subst h; rfl
  | [], _ :: _, _, h => by simp [ints] at h
  | _ :: _, [], _, h => by simp [ints] at h
  | k :: ks, .g _ :: r, _, h => by simp [ints] at h
  | k :: ks, .s x :: r, l, h => by
    cases x <;> simp only [ints] at h <;> try (simp at h; done)
    rename_i k' n
    split at h
    · rename_i hk
      subst hk
      split at h
      · rename_i l' hl
        simp only [Option.some.injEq] at h
        subst h
        simp only [List.zipWith_cons_cons, ints_eq hl]
      · simp at h
    · simp at h

end Go.Eng
