/- The engine, part J: regions in the order of the text, code, functions. -/
import Derived.Test.YtmajpppjakdodaaEngI
set_option linter.all false
set_option exponentiation.threshold 3000
namespace Go.Eng

section
variable {P : Program} {K : Cx} {w0 : World} {Wr : Base} {ρ : Rho} {n : Ids} {s : St} {a : Act} {w : World} {gs : List (Nat × Bool)}

theorem del_mem {t t' : Nat} {e : Ent} : ∀ {env : List (Nat × Ent)}, (t', e) ∈ del t env → t' ≠ t ∧ (t', e) ∈ env
  | [], h => by simp [del] at h
  | (j, f) :: r, h => by
    simp only [del] at h
    split at h
    · obtain ⟨h1, h2⟩ := del_mem h; exact ⟨h1, List.mem_cons_of_mem _ h2⟩
    · rename_i hj
      simp only [beq_iff_eq] at hj
      simp only [List.mem_cons, Prod.mk.injEq] at h
      rcases h with ⟨rfl, rfl⟩ | h
      · exact ⟨hj, List.mem_cons_self ..⟩
      · obtain ⟨h1, h2⟩ := del_mem h; exact ⟨h1, List.mem_cons_of_mem _ h2⟩

theorem look_del {t t' : Nat} (h : t' ≠ t) : ∀ (env : List (Nat × Ent)), look (del t env) t' = look env t'
  | [] => rfl
  | (j, f) :: r => by
    simp only [del]
    split
    · rename_i hj
      simp only [beq_iff_eq] at hj
      subst hj
      rw [look_del h r]
      simp only [look]
      rw [if_neg (by simpa using fun e => h e.symm)]
    · simp only [look]
      split
      · rfl
      · exact look_del h r

theorem look_put {t t' : Nat} {e : Ent} (h : t' ≠ t) (env : List (Nat × Ent)) : look (put env t e) t' = look env t' := by
  unfold put
  simp only [look]
  rw [if_neg (by simpa using fun e => h e.symm)]
  exact look_del h env

theorem gBool_put {t : Nat} {e : Ent} {env : List (Nat × Ent)} : ∀ {gs : List (Nat × Bool)}, gs.any (fun g => g.1 == t) = false → gBool K (put env t e) gs = gBool K env gs
  | [], _ => rfl
  | (j, b) :: r, h => by
    simp only [List.any_cons, Bool.or_eq_false_iff, beq_eq_false_iff_ne, ne_eq] at h
    unfold gBool
    rw [look_put (by simpa using h.1), gBool_put (env := env) (e := e) h.2]

theorem mentions_mem {t t' : Nat} {e : Ent} : ∀ {env : List (Nat × Ent)}, mentions t env = false → (t', e) ∈ env → e.gs.any (fun g => g.1 == t) = false
  | [], _, h => by simp at h
  | (j, f) :: r, hm, h => by
    simp only [mentions, Bool.or_eq_false_iff] at hm
    simp only [List.mem_cons, Prod.mk.injEq] at h
    rcases h with ⟨_, rfl⟩ | h
    · exact hm.1
    · exact mentions_mem hm.2 h

theorem okDst_some {t : Nat} {env : List (Nat × Ent)} (h : okDst K (some t) gs env = true) : t < K.N ∧ mentions t env = false ∧ gs.any (fun g => g.1 == t) = false := by
  simp only [okDst, Bool.and_eq_true, decide_eq_true_eq, Bool.not_eq_true'] at h
  exact ⟨h.1.1, h.1.2, h.2⟩

/-- the slots behind a result put where it goes -/
theorem put_env {env : List (Nat × Ent)} {n' : Ids} {ρ' : Rho} {dst : Option Nat} {r : XV} {v : Value} (hsz : a.tmps.size = K.N) (hok : okDst K dst gs env = true) (ha : Agree n ρ ρ') (hn : ∀ i, n i → n' i)
    (henv : ∀ t e, (t, e) ∈ env → (gBool K env e.gs = true → a.tmps[t]? = some (e.v.den ρ) ∧ StbX n ρ e.v) ∧ (gBool K env e.gs = false → a.tmps[t]? = some undef))
    (hv : (gBool K env gs = true → v = r.den ρ' ∧ StbX n' ρ' r) ∧ (gBool K env gs = false → v = undef)) :
    (a.put dst v).tmps.size = K.N ∧
    ∀ t e, (t, e) ∈ (match dst with | some t => put env t ⟨gs, r⟩ | none => env) →
      (gBool K (match dst with | some t => put env t ⟨gs, r⟩ | none => env) e.gs = true → (a.put dst v).tmps[t]? = some (e.v.den ρ') ∧ StbX n' ρ' e.v) ∧
      (gBool K (match dst with | some t => put env t ⟨gs, r⟩ | none => env) e.gs = false → (a.put dst v).tmps[t]? = some undef) := by
  have old : ∀ e : Ent, ∀ t : Nat, (t, e) ∈ env → (gBool K env e.gs = true → a.tmps[t]? = some (e.v.den ρ') ∧ StbX n' ρ' e.v) ∧ (gBool K env e.gs = false → a.tmps[t]? = some undef) := fun e t he => by
    obtain ⟨h1, h2⟩ := henv t e he
    refine ⟨fun hg => ?_, h2⟩
    obtain ⟨h3, h4⟩ := h1 hg
    exact ⟨by rw [h4 ρ' ha]; exact h3, StbX.mono (StbX.move h4 ha) hn⟩
  cases dst with
  | none => exact ⟨hsz, fun t e he => old e t he⟩
  | some t =>
    obtain ⟨g1, g2, g3⟩ := okDst_some hok
    refine ⟨by simp [Act.put, hsz], fun t' e he => ?_⟩
    simp only [put, List.mem_cons, Prod.mk.injEq] at he
    rcases he with ⟨rfl, rfl⟩ | he
    · have hgb : gBool K (put env t' ⟨gs, r⟩) gs = gBool K env gs := gBool_put g3
      have htm : (a.put (some t') v).tmps[t']? = some v := by
        simp only [Act.put]
        rw [Array.getElem?_setIfInBounds_self_of_lt (by omega)]
      constructor
      · intro hg
        have h := hv.1 (hgb.symm.trans hg)
        exact ⟨by rw [htm, h.1], h.2⟩
      · intro hg
        have h := hv.2 (hgb.symm.trans hg)
        rw [htm, h]
    · obtain ⟨hne, hmem⟩ := del_mem he
      have hgb : gBool K (put env t ⟨gs, r⟩) e.gs = gBool K env e.gs := gBool_put (mentions_mem g2 hmem)
      have htm : (a.put (some t) v).tmps[t']? = a.tmps[t']? := by
        simp only [Act.put]
        rw [Array.getElem?_setIfInBounds_ne (by omega)]
      obtain ⟨h1, h2⟩ := old e t' hmem
      rw [htm]
      exact ⟨fun hg => h1 (hgb.symm.trans hg), fun hg => h2 (hgb.symm.trans hg)⟩

theorem put_defers (x : Option Nat) (v : Value) : (a.put x v).defers = a.defers := by cases x <;> rfl

theorem take_on (hs : Sat K w0 Wr ρ n s a w) (hg : gBool K s.env gs = true) {dst : Option Nat} (hok : okDst K dst gs s.env = true) {r : FR} {v : Value} {w' : World} (hd : Did w0 Wr ρ s.heap n s.nid w r v w') :
    ∃ ρ' n', Sat K w0 Wr ρ' n' (s.take dst gs r) (a.put dst v) w' := by
  obtain ⟨ρ', h1, h2, h3, h4, _, _⟩ := hd
  refine ⟨ρ', addI n s.nid r.new.length, ?_⟩
  obtain ⟨g1, g2⟩ := put_env (r := r.val) (v := v) (n' := addI n s.nid r.new.length) hs.size hok h1 (fun _ => addI_old) hs.env ⟨fun _ => ⟨h2, h3⟩, fun h => by rw [hg] at h; cases h⟩
  exact ⟨g1, by rw [put_defers]; exact hs.defers, g2, h4, fun i hi => by
    rcases hi with hi | hi
    · have := hs.lt i hi; simp only [St.take]; omega
    · simp only [St.take]; omega⟩

theorem take_off (hs : Sat K w0 Wr ρ n s a w) (hg : gBool K s.env gs = false) {dst : Option Nat} (hok : okDst K dst gs s.env = true) {r : FR} (h1 : r.new = []) (h2 : r.wr = []) :
    Sat K w0 Wr ρ n (s.take dst gs r) (a.put dst undef) w := by
  obtain ⟨g1, g2⟩ := put_env (r := r.val) (v := undef) (n' := n) hs.size hok (Agree.refl n ρ) (fun _ h => h) hs.env ⟨(fun h => by rw [hg] at h; cases h), fun _ => rfl⟩
  refine ⟨g1, by rw [put_defers]; exact hs.defers, g2, ?_, fun i hi => ?_⟩
  · simp only [St.take, h1, h2]; exact hs.hs
  · have := hs.lt i hi; simp only [St.take]; omega

theorem dstOf_arr {ops : Array Oper} {l : List Oper} (hl : ops.toList = l) (j : Nat) : dstOf l j = (ops[j]?).bind (·.dst) := by
  subst hl
  unfold dstOf
  simp only [Array.getElem?_toList]
  cases ops[j]? <;> rfl

theorem guard_sound (hA : K.A = stdA) (hs : Sat K w0 Wr ρ n s a w) {ops : Array Oper} {l : List Oper} (hl : ops.toList = l) (o : Oper) {G : Gd} (hG : guardOf l s o = G) :
    match G with
    | .on => Region.wanted o (yielded ops a.tmps) = true
    | .off => Region.wanted o (yielded ops a.tmps) = false
    | .sym gs => Region.wanted o (yielded ops a.tmps) = gBool K s.env gs
    | .bad => True := by
  unfold guardOf at hG
  cases hgd : o.guard with
  | none =>
    simp only [hgd] at hG
    subst hG
    simp [Region.wanted, hgd]
  | some p =>
    obtain ⟨j, want⟩ := p
    simp only [hgd] at hG
    cases hd : dstOf l j with
    | none => simp only [hd] at hG; subst hG; trivial
    | some t =>
      simp only [hd] at hG
      have hy : yielded ops a.tmps j = match a.tmps[t]? with | some (.bool b) => some b | _ => none := by
        rw [dstOf_arr hl] at hd
        unfold yielded
        rw [hd]
        rfl
      have hw : Region.wanted o (yielded ops a.tmps) = (yielded ops a.tmps j == some want) := by simp [Region.wanted, hgd]
      rw [hw, hy]
      split at hG
      · rename_i gs b hlk
        split at hG
        · have h := (hs.env _ _ (look_mem hlk)).1 rfl
          rw [h.1]
          split at hG
          · rename_i hb; simp only [beq_iff_eq] at hb; subst hb hG; simp [XV.den, CV.den, Sc.den]
          · rename_i hb; subst hG; simpa [XV.den, CV.den, Sc.den] using hb
        · rename_i g r
          have h := hs.env _ _ (look_mem hlk)
          simp only at h
          split at hG
          · rename_i hb
            simp only [beq_iff_eq] at hb
            subst hb hG
            cases hg : gBool K s.env (g :: r) with
            | true => rw [(h.1 hg).1]; simp [XV.den, CV.den, Sc.den, hg]
            | false => rw [h.2 hg]; simp [undef, hg]
          · rename_i hb
            subst hG
            cases hg : gBool K s.env (g :: r) with
            | true => rw [(h.1 hg).1]; simpa [XV.den, CV.den, Sc.den] using hb
            | false => rw [h.2 hg]; simp [undef]
      · rename_i gs b hlk
        subst hG
        have h := hs.env _ _ (look_mem hlk)
        simp only at h
        cases hg : gBool K s.env gs with
        | true =>
          rw [((h.1 hg)).1]
          simp only
          unfold gBool
          rw [hlk]
          cases gs with
          | nil => simp [hA, stdA, XV.den, CV.den, Sc.den]
          | cons g r => simp [hA, stdA, hg, XV.den, CV.den, Sc.den]
        | false =>
          rw [h.2 hg]
          simp only
          unfold gBool
          rw [hlk]
          cases gs with
          | nil => simp [gBool] at hg
          | cons g r => simp [hA, stdA, hg, undef]
      · rename_i gs hlk
        split at hG
        · have h := (hs.env _ _ (look_mem hlk)).1 rfl
          rw [h.1]
          subst hG
          simp [XV.den, CV.den, Sc.den, undef]
        · rename_i g r
          have h := hs.env _ _ (look_mem hlk)
          simp only at h
          subst hG
          cases hg : gBool K s.env (g :: r) with
          | true => rw [(h.1 hg).1]; simp [XV.den, CV.den, Sc.den, undef]
          | false => rw [h.2 hg]; simp [undef]
      · subst hG; trivial

theorem AllT_sound : ∀ {l : List Bool} {p : Prop}, AllT l p → (∀ b, b ∈ l → b = true) ∧ p
  | [], _, h => ⟨fun b hb => by simp at hb, h⟩
  | x :: r, _, h => by
    obtain ⟨h1, h2⟩ := h
    obtain ⟨h3, h4⟩ := AllT_sound h2
    refine ⟨fun b hb => ?_, h4⟩
    simp only [List.mem_cons] at hb
    rcases hb with rfl | hb
    · exact h1
    · exact h3 b hb

theorem gImp_sound (hA : K.A = stdA) {g : Bool} (hg : g = true) : ∀ {l : List Bool}, (∀ b, b ∈ gImp K g l → b = true) → ∀ b, b ∈ l → b = true
  | [], _, b, hb => by simp at hb
  | x :: r, h, b, hb => by
    simp only [List.mem_cons] at hb
    rcases hb with rfl | hb
    · have := h (K.A.imp g b) (by simp [gImp])
      rw [hA] at this
      simpa [stdA, hg] using this
    · exact gImp_sound hA hg (fun c hc => h c (by simp [gImp, hc])) b hb

/-- what holds behind code: the state that the continuation was handed -/
def Qk (K : Cx) (w0 : World) (Wr : Base) (k : Exit → St → Prop) : Exit → Act → World → Prop :=
  fun e a w => ∃ s ρ n, k e s ∧ Sat K w0 Wr ρ n s a w

theorem gBool_iff (hA : K.A = stdA) {env : List (Nat × Ent)} : ∀ {gs : List (Nat × Bool)}, gBool K env gs = true ↔ ∀ g, g ∈ gs → ∃ x, look env g.1 = some x ∧ x.v = .c (.s (.bool g.2))
  | [] => by simp [gBool]
  | (t, b) :: r => by
    constructor
    · intro h g hg
      obtain ⟨h1, x, z, h2, h3, h4⟩ := gBool_cons hA h
      simp only [List.mem_cons] at hg
      rcases hg with rfl | hg
      · exact ⟨x, h2, by rw [h3, h4]⟩
      · exact (gBool_iff hA).1 h1 g hg
    · intro h
      obtain ⟨x, h1, h2⟩ := h (t, b) (List.mem_cons_self ..)
      have ih := (gBool_iff hA (env := env) (gs := r)).2 fun g hg => h g (List.mem_cons_of_mem _ hg)
      obtain ⟨g, v⟩ := x
      simp only at h2
      subst h2
      unfold gBool
      rw [h1]
      cases r with
      | nil => simp only; rw [hA]; simp [stdA]
      | cons y r => simp only; rw [ih, hA]; simp [stdA]

def fixE (t : Nat) (b : Bool) (j : Nat) (e : Ent) : Ent := if j == t then ⟨[], .c (.s (.tt b))⟩ else if e.gs.any (fun g => g.1 == t && g.2 == !b) then ⟨[], .c (.s .un)⟩ else ⟨e.gs.filter (fun g => !(g.1 == t)), e.v⟩

theorem fixEnv_mem {t : Nat} {b : Bool} {j : Nat} {e' : Ent} : ∀ {env : List (Nat × Ent)}, (j, e') ∈ fixEnv t b env → ∃ e, (j, e) ∈ env ∧ e' = fixE t b j e
  | [], h => by simp [fixEnv] at h
  | (i, e) :: r, h => by
    simp only [fixEnv, List.mem_cons, Prod.mk.injEq] at h
    rcases h with ⟨rfl, rfl⟩ | h
    · exact ⟨e, List.mem_cons_self .., rfl⟩
    · obtain ⟨e, h1, h2⟩ := fixEnv_mem h; exact ⟨e, List.mem_cons_of_mem _ h1, h2⟩

theorem look_fixEnv {t : Nat} {b : Bool} {j : Nat} : ∀ {env : List (Nat × Ent)}, look (fixEnv t b env) j = (look env j).map (fixE t b j)
  | [] => rfl
  | (i, e) :: r => by
    simp only [fixEnv, look]
    split
    · rename_i h; simp only [beq_iff_eq] at h; subst h; rfl
    · exact look_fixEnv

theorem guardsOK_mem {env : List (Nat × Ent)} {j : Nat} {e : Ent} {g : Nat × Bool} : ∀ {l : List (Nat × Ent)}, guardsOK env l = true → (j, e) ∈ l → g ∈ e.gs → ∃ x z, look env g.1 = some x ∧ x.v = .c (.s (.bool z))
  | [], _, h, _ => by simp at h
  | (i, f) :: r, h, hm, hg => by
    simp only [guardsOK, Bool.and_eq_true, List.all_eq_true] at h
    simp only [List.mem_cons, Prod.mk.injEq] at hm
    rcases hm with ⟨_, rfl⟩ | hm
    · have := h.1 g hg
      split at this
      · rename_i y z hl; exact ⟨_, z, hl, rfl⟩
      · cases this
    · exact guardsOK_mem h.2 hm hg

theorem fix_sat (hA : K.A = stdA) (hs : Sat K w0 Wr ρ n s a w) {t : Nat} {z : Bool} (ht : look s.env t = some ⟨[], .c (.s (.bool z))⟩) (hok : guardsOK (fixEnv t z s.env) (fixEnv t z s.env) = true) :
    Sat K w0 Wr ρ n { s with env := fixEnv t z s.env } a w where
  size := hs.size
  defers := hs.defers
  env j e' he := by
    obtain ⟨e, h1, h2⟩ := fixEnv_mem he
    have h := hs.env j e h1
    by_cases hj : j = t
    · subst hj
      have hm := hs.env j _ (look_mem ht)
      simp only [fixE, beq_self_eq_true, if_true] at h2
      subst h2
      exact ⟨fun _ => ⟨(hm.1 rfl).1, fun _ _ => rfl⟩, fun hf => by simp [gBool] at hf⟩
    · have hj' : (j == t) = false := by simp [hj]
      simp only [fixE, hj', Bool.false_eq_true, if_false] at h2
      split at h2
      · rename_i hany
        subst h2
        simp only [List.any_eq_true, Bool.and_eq_true, beq_iff_eq] at hany
        obtain ⟨g, g1, g2, g3⟩ := hany
        have hf : gBool K s.env e.gs = false := by
          cases hg : gBool K s.env e.gs with
          | false => rfl
          | true =>
            obtain ⟨x, h3, h4⟩ := (gBool_iff hA).1 hg g g1
            rw [g2, ht] at h3
            simp only [Option.some.injEq] at h3
            subst h3
            simp only [XV.c.injEq, CV.s.injEq, Sc.bool.injEq] at h4
            rw [g3] at h4
            cases z <;> cases h4
        exact ⟨fun _ => ⟨h.2 hf, fun _ _ => rfl⟩, fun hf => by simp [gBool] at hf⟩
      · rename_i hany
        subst h2
        have heq : gBool K (fixEnv t z s.env) (e.gs.filter fun g => !(g.1 == t)) = gBool K s.env e.gs := by
          rw [Bool.eq_iff_iff, gBool_iff hA, gBool_iff hA]
          constructor
          · intro hh g hg
            by_cases hgt : g.1 = t
            · refine ⟨_, by rw [hgt]; exact ht, ?_⟩
              simp only [XV.c.injEq, CV.s.injEq, Sc.bool.injEq]
              simp only [List.any_eq_true, not_exists, not_and, Bool.and_eq_true, beq_iff_eq] at hany
              have := hany g hg hgt
              cases z <;> cases hq : g.2 <;> simp_all
            · obtain ⟨x, h3, h4⟩ := hh g (by simp [hg, hgt])
              rw [look_fixEnv] at h3
              cases hl : look s.env g.1 with
              | none => rw [hl] at h3; simp at h3
              | some y =>
                rw [hl] at h3
                simp only [Option.map_some, Option.some.injEq] at h3
                subst h3
                have hgt' : (g.1 == t) = false := by simp [hgt]
                simp only [fixE, hgt', Bool.false_eq_true, if_false] at h4
                split at h4
                · cases h4
                · exact ⟨y, rfl, h4⟩
          · intro hh g hg
            simp only [List.mem_filter, Bool.not_eq_true', beq_eq_false_iff_ne] at hg
            obtain ⟨x, h3, h4⟩ := hh g hg.1
            obtain ⟨x', z', h5, h6⟩ := guardsOK_mem (g := g) hok he (by simp [hg.1, hg.2])
            refine ⟨x', h5, ?_⟩
            rw [look_fixEnv, h3] at h5
            simp only [Option.map_some, Option.some.injEq] at h5
            subst h5
            have hgt' : (g.1 == t) = false := by simp [hg.2]
            simp only [fixE, hgt', Bool.false_eq_true, if_false] at h6 ⊢
            split
            · rename_i hx; rw [if_pos hx] at h6; cases h6
            · exact h4
        simp only
        rw [heq]
        exact h
  hs := hs.hs
  lt := hs.lt

theorem settle_sound (hA : K.A = stdA) {full : List Oper} {o : Oper} {k : St → Prop} : ∀ (m : Nat) (s : St), settle K full o m s k → Sat K w0 Wr ρ n s a w → ∃ s', Sat K w0 Wr ρ n s' a w ∧ k s'
  | 0, _, h, _ => h.elim
  | m + 1, s, h, hs => by
    simp only [settle] at h
    split at h
    · split at h
      · split at h
        · exact ⟨s, hs, h⟩
        · split at h
          · rename_i t hg
            split at h
            · rename_i z ht
              split at h
              · rename_i h1 h2
                cases z with
                | true => exact settle_sound hA m _ (h.1 rfl) (fix_sat hA hs ht h1)
                | false => exact settle_sound hA m _ (h.2 rfl) (fix_sat hA hs ht h2)
              · exact h.elim
            · exact h.elim
          · exact h.elim
      · exact h.elim
    · exact ⟨s, hs, h⟩

theorem runOps_sound (hA : K.A = stdA) (hT : TOK P K.T) (hC : COK P K.C) {ops : Array Oper} {full : List Oper} (hl : ops.toList = full) {k : St → Prop} {Q : Exit → Act → World → Prop}
    (hQ : ∀ s, k s → ∀ ρ n a w, Sat K w0 Wr ρ n s a w → Q .normal a w) : ∀ (l : List Oper) (s : St), runOps K full l s k → ∀ ρ n a w, Sat K w0 Wr ρ n s a w → wpList P ops Q l a w
  | [], s, h, ρ, n, a, w, hs => hQ s h ρ n a w hs
  | o :: rest, s, h, ρ, n, a, w, hs => by
    simp only [runOps] at h
    obtain ⟨s, hs, h⟩ := settle_sound hA _ _ h hs
    simp only [wpList]
    split at h
    · exact h.elim
    · rename_i heq
      have hgd := guard_sound hA hs hl o heq
      simp only at hgd
      rw [hgd]
      simp only [Bool.false_eq_true, if_false]
      split at h
      · rename_i hok
        obtain ⟨ρ', n', h'⟩ := take_on (gs := []) hs rfl hok (r := ⟨[], .c (.s .un), [], []⟩) (v := undef) (w' := w) (Did.pure (v := .c (.s .un)) hs.hs fun _ _ => rfl)
        exact runOps_sound hA hT hC hl hQ rest _ h ρ' n' _ _ h'
      · exact h.elim
    · rename_i heq
      have hgd := guard_sound hA hs hl o heq
      simp only at hgd
      rw [hgd]
      simp only [if_true]
      split at h
      · rename_i r hr
        split at h
        · rename_i hok
          obtain ⟨h1, h2⟩ := AllT_sound h
          refine .inl (Res.wp (evOp_sound hA hT hC hs rfl hr h1) fun v w' hd => ?_)
          obtain ⟨ρ', n', h'⟩ := take_on (gs := []) hs rfl hok hd
          exact runOps_sound hA hT hC hl hQ rest _ h2 ρ' n' _ _ h'
        · exact h.elim
      · exact h.elim
    · rename_i gs heq
      have hgd := guard_sound hA hs hl o heq
      simp only at hgd
      split at h
      · rename_i r hr
        split at h
        · rename_i hnew hwr
          split at h
          · rename_i hok
            obtain ⟨h1, h2⟩ := AllT_sound h
            rw [hgd]
            cases hg : gBool K s.env gs with
            | true =>
              simp only [if_true]
              refine .inl (Res.wp (evOp_sound hA hT hC hs hg hr (gImp_sound hA hg h1)) fun v w' hd => ?_)
              obtain ⟨ρ', n', h'⟩ := take_on hs hg hok hd
              exact runOps_sound hA hT hC hl hQ rest _ h2 ρ' n' _ _ h'
            | false =>
              simp only [Bool.false_eq_true, if_false]
              exact runOps_sound hA hT hC hl hQ rest _ h2 ρ n _ _ (take_off hs hg hok hnew hwr)
          · exact h.elim
        · exact h.elim
      · exact h.elim

theorem clean_mem {t : Nat} {e : Ent} : ∀ {env : List (Nat × Ent)}, (t, e) ∈ clean env → (t, e) ∈ env ∧ e.gs = []
  | [], h => by simp [clean] at h
  | (j, f) :: r, h => by
    simp only [clean] at h
    split at h
    · rename_i hf
      simp only [List.mem_cons, Prod.mk.injEq] at h
      rcases h with ⟨rfl, rfl⟩ | h
      · exact ⟨List.mem_cons_self .., hf⟩
      · obtain ⟨h1, h2⟩ := clean_mem h; exact ⟨List.mem_cons_of_mem _ h1, h2⟩
    · obtain ⟨h1, h2⟩ := clean_mem h; exact ⟨List.mem_cons_of_mem _ h1, h2⟩

theorem clean_sat (hs : Sat K w0 Wr ρ n s a w) : Sat K w0 Wr ρ n { s with env := clean s.env } a w where
  size := hs.size
  defers := hs.defers
  env t e he := by
    obtain ⟨h1, h2⟩ := clean_mem he
    have h := hs.env t e h1
    rw [h2] at h ⊢
    exact ⟨fun _ => h.1 rfl, fun hf => by simp [gBool] at hf⟩
  hs := hs.hs
  lt := hs.lt

theorem prune_mem {o : Option (List Nat)} {env : List (Nat × Ent)} {x : Nat × Ent} (h : x ∈ prune o env) : x ∈ env := by
  cases o with
  | none => exact h
  | some l => exact (List.mem_filter.1 h).1

theorem prune_clean_sat {o : Option (List Nat)} (hs : Sat K w0 Wr ρ n s a w) : Sat K w0 Wr ρ n { s with env := prune o (clean s.env) } a w where
  size := hs.size
  defers := hs.defers
  env t e he := by
    obtain ⟨h1, h2⟩ := clean_mem (prune_mem he)
    have h := hs.env t e h1
    rw [h2] at h ⊢
    exact ⟨fun _ => h.1 rfl, fun hf => by simp [gBool] at hf⟩
  hs := hs.hs
  lt := hs.lt

end
end Go.Eng
