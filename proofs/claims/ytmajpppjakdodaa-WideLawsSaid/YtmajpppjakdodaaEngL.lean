/- The engine, part L: the front's operations as the evaluator takes them; the whole region. -/
import Derived.Test.YtmajpppjakdodaaEngK
set_option linter.all false
set_option exponentiation.threshold 3000
namespace Go.Eng
section
variable {P : Program} {K : Cx} {w0 : World} {Wr : Base}

theorem hsub_push {f : Fact} : ∀ {F : List Fact} {h : Heap} {j : Nat} {c : Nat → Bool}, c (j + F.length) = false → hsub h (F ++ [f]) j c = hsub h F j c
  | [], h, j, c, hc => by
    simp only [List.nil_append, hsub]
    rw [show c j = false by simpa using hc]
  | g :: r, h, j, c, hc => by
    simp only [List.cons_append, hsub]
    rw [hsub_push (by rw [← hc]; congr 1; simp; omega)]

theorem hsub_same : ∀ {F : List Fact} {h : Heap} {j : Nat} {c d : Nat → Bool}, (∀ m, m < F.length → c (j + m) = d (j + m)) → hsub h F j c = hsub h F j d
  | [], _, _, _, _, _ => rfl
  | f :: r, h, j, c, d, e => by
    have h0 := e 0 (by simp)
    rw [Nat.add_zero] at h0
    simp only [hsub]
    rw [h0]
    exact hsub_same fun m hm => by
      have := e (m + 1) (by simpa using hm)
      rw [show j + (m + 1) = j + 1 + m from by omega] at this
      exact this

theorem dis_mem {a b : List Nat} (h : dis a b = true) {i : Nat} (hi : i ∈ a) : i ∉ b := by
  unfold dis at h
  have := List.all_eq_true.1 h i hi
  simpa using this

theorem cmpOK_mem {cl : Nat} {wrk tch : List Nat} : ∀ {F : List Fact} {j : Nat}, cmpOK cl wrk tch F j = true → ∀ (m : Nat) (g : Fact), F[m]? = some g → cl.testBit (j + m) = true ∨ dis (g.wr.map (·.1)) tch = true ∧ dis wrk g.tch = true
  | [], _, _, m, g, h => by simp at h
  | f :: r, j, h, m, g, hg => by
    simp only [cmpOK, Bool.and_eq_true, Bool.or_eq_true] at h
    cases m with
    | zero =>
      simp only [List.getElem?_cons_zero, Option.some.injEq] at hg
      subst hg
      exact h.1
    | succ m =>
      have := cmpOK_mem h.2 m g (by simpa using hg)
      rwa [show j + (m + 1) = j + 1 + m from by omega]

theorem wrOK_spec {tch : List Nat} {h : Heap} : ∀ {wr : Heap}, wrOK tch h wr = true → (wr.map (·.1)).Nodup ∧ ∀ (i : Nat) (b : Blk), look wr i = some b → i ∈ tch ∧ ∃ c, look h i = some c ∧ c.own = true
  | [], _ => ⟨by simp, fun i b hb => by simp [look] at hb⟩
  | (j, c) :: r, hw => by
    simp only [wrOK, Bool.and_eq_true] at hw
    obtain ⟨⟨⟨h1, h2⟩, h3⟩, h4⟩ := hw
    obtain ⟨g1, g2⟩ := wrOK_spec h4
    refine ⟨?_, fun i b hb => ?_⟩
    · simp only [List.map_cons, List.nodup_cons]
      exact ⟨by simpa using h3, g1⟩
    · simp only [look] at hb
      split at hb
      · rename_i hj
        simp only [beq_iff_eq] at hj
        subst hj
        refine ⟨by simpa using h1, ?_⟩
        split at h2
        · rename_i k hk; exact ⟨k, hk, h2⟩
        · cases h2
      · exact g2 i b hb

theorem FOK.push {heap : Heap} {F : List Fact} {lo hi : Nat} (hK : FOK heap F lo hi) {l : List Edge} {cl : Nat} (hcl : clE F l = some cl) {d : Option Nat} {new : List Blk} {rd : List Nat} {wr : Heap} {tch : List Nat}
    (hw : wrOK tch (keepH tch (hsub heap F 0 cl.testBit)) wr = true) (hc : cmpOK cl (wr.map (·.1)) tch F 0 = true) : FOK heap (F ++ [⟨d, cl, hi, new, rd, wr, tch⟩]) lo (hi + new.length) := by
  obtain ⟨w1, w2⟩ := wrOK_spec hw
  have hbl := clE_lt hK.bits hcl
  have hst : ∀ (k : Nat) (g : Fact), F[k]? = some g → hsub heap (F ++ [⟨d, cl, hi, new, rd, wr, tch⟩]) 0 g.cl.testBit = hsub heap F 0 g.cl.testBit := fun k g hg => by
    refine hsub_push ?_
    rw [Nat.zero_add]
    cases hb : g.cl.testBit F.length with
    | false => rfl
    | true =>
      have := hK.bits k g hg _ hb
      have := get_lt hg
      omega
  exact {
    ord := hK.ord.push (f := ⟨d, cl, hi, new, rd, wr, tch⟩) rfl
    bits := hK.bits.push hcl _ _ _ _ _ _
    hb := hK.hb
    nd := fun m f hf => by
      rcases get_push hf with hf | ⟨rfl, rfl⟩
      · exact hK.nd m f hf
      · exact w1
    wt := fun m f i b hf hi => by
      rcases get_push hf with hf | ⟨rfl, rfl⟩
      · exact hK.wt m f i b hf hi
      · exact (w2 i b hi).1
    cmp := fun m k f g hf hg hlt => by
      rcases get_push hg with hg | ⟨rfl, rfl⟩
      · rcases get_push hf with hf | ⟨rfl, rfl⟩
        · exact hK.cmp m k f g hf hg hlt
        · have := get_lt hg; omega
      · rcases get_push hf with hf | ⟨rfl, rfl⟩
        · rcases cmpOK_mem hc m f hf with h | ⟨h1, h2⟩
          · rw [Nat.zero_add] at h; exact .inl h
          · exact .inr ⟨fun i b hb => dis_mem h1 (List.mem_map.2 ⟨_, look_mem hb, rfl⟩), fun i b hb => dis_mem h2 (List.mem_map.2 ⟨_, look_mem hb, rfl⟩)⟩
        · omega
    prs := fun k g i b hg hb => by
      rcases get_push hg with hg | ⟨rfl, rfl⟩
      · rw [hst k g hg]; exact hK.prs k g i b hg hb
      · obtain ⟨_, c, c1, c2⟩ := w2 i b hb
        refine ⟨c, ?_, c2⟩
        show look (hsub heap (F ++ [⟨d, cl, hi, new, rd, wr, tch⟩]) 0 cl.testBit) i = some c
        rw [hsub_push (by
          rw [Nat.zero_add]
          cases hb : cl.testBit F.length with
          | false => rfl
          | true => have := hbl _ hb; omega)]
        exact ((look_keepH _ _ _ _).1 c1).2 }

theorem filt_mem {R : List Nat} {t : Nat} {e : Ent} : ∀ {env : List (Nat × Ent)}, (t, e) ∈ filt R env → (t, e) ∈ env ∧ R.contains t = true
  | [], h => by simp [filt] at h
  | (j, f) :: r, h => by
    simp only [filt] at h
    split at h
    · rename_i hc
      simp only [List.mem_cons, Prod.mk.injEq] at h
      rcases h with ⟨rfl, rfl⟩ | h
      · exact ⟨List.mem_cons_self .., hc⟩
      · obtain ⟨h1, h2⟩ := filt_mem h; exact ⟨List.mem_cons_of_mem _ h1, h2⟩
    · obtain ⟨h1, h2⟩ := filt_mem h; exact ⟨List.mem_cons_of_mem _ h1, h2⟩

theorem look_filt {R : List Nat} {t : Nat} (hc : R.contains t = true) : ∀ (env : List (Nat × Ent)), look (filt R env) t = look env t
  | [] => rfl
  | (j, f) :: r => by
    simp only [filt]
    split
    · simp only [look]
      split
      · rfl
      · exact look_filt hc r
    · rename_i hj
      simp only [look]
      rw [if_neg (fun e => hj (by simp only [beq_iff_eq] at e; subst e; exact hc))]
      exact look_filt hc r

theorem gBool_filt {R : List Nat} {env : List (Nat × Ent)} : ∀ {gs : List (Nat × Bool)}, gs.all (fun g => R.contains g.1) = true → gBool K (filt R env) gs = gBool K env gs
  | [], _ => rfl
  | (t, b) :: r, h => by
    simp only [List.all_cons, Bool.and_eq_true] at h
    unfold gBool
    rw [look_filt h.1, gBool_filt h.2]

theorem ownOf_none {t : Nat} : ∀ {F : List Fact} {j : Nat}, ownOf t F j = none → ∀ (m : Nat) (g : Fact), F[m]? = some g → g.dst ≠ some t
  | [], _, _, m, g, hg => by simp at hg
  | f :: r, j, h, m, g, hg => by
    simp only [ownOf] at h
    split at h
    · simp at h
    · rename_i hf
      cases m with
      | zero => simp only [List.getElem?_cons_zero, Option.some.injEq] at hg; subst hg; simpa using hf
      | succ m => exact ownOf_none h m g (by simpa using hg)

theorem ownOf_some {t k : Nat} : ∀ {F : List Fact} {j : Nat}, ownOf t F j = some k → ∃ m g, k = j + m ∧ F[m]? = some g ∧ g.dst = some t
  | [], _, h => by simp [ownOf] at h
  | f :: r, j, h => by
    simp only [ownOf] at h
    split at h
    · rename_i hf
      simp only [Option.some.injEq] at h
      exact ⟨0, f, by omega, by simp, by simpa using hf⟩
    · obtain ⟨m, g, h1, h2, h3⟩ := ownOf_some h
      exact ⟨m + 1, g, by omega, by simpa using h2, h3⟩

theorem closedB_mem {R : List Nat} {F : List Fact} {cl t : Nat} {e : Ent} : ∀ {env : List (Nat × Ent)}, closedB R F cl env = true → (t, e) ∈ env →
    e.gs.all (fun g => R.contains g.1) = true ∧ ∀ m, ownOf t F 0 = some m → cl.testBit m = true
  | [], _, h => by simp at h
  | (j, f) :: r, hc, h => by
    simp only [closedB, Bool.and_eq_true] at hc
    simp only [List.mem_cons, Prod.mk.injEq] at h
    rcases h with ⟨rfl, rfl⟩ | h
    · refine ⟨hc.1.1, fun m hm => ?_⟩
      have := hc.1.2
      rw [hm] at this
      exact this
    · exact closedB_mem hc.2 h

theorem look_none {t : Nat} {e : Ent} : ∀ {env : List (Nat × Ent)}, look env t = none → (t, e) ∉ env
  | [], _ => by simp
  | (j, f) :: r, h => by
    simp only [look] at h
    split at h
    · simp at h
    · rename_i hj
      simp only [List.mem_cons, Prod.mk.injEq, not_or]
      exact ⟨fun he => hj (by simp [he.1]), look_none h⟩

theorem freshDst_some {t : Nat} {env : List (Nat × Ent)} (h : freshDst (some t) env = true) : ∀ e, (t, e) ∉ env := fun e => by
  simp only [freshDst] at h
  split at h
  · rename_i hl; exact look_none hl
  · simp at h

theorem readOK_mem {t cl : Nat} : ∀ {F : List Fact} {j : Nat}, readOK t cl F j = true → ∀ (m : Nat) (f : Fact), F[m]? = some f → f.rd.contains t = true → cl.testBit (j + m) = true
  | [], _, _, m, f, h, _ => by simp at h
  | g :: r, j, h, m, f, hf, hc => by
    simp only [readOK, Bool.and_eq_true] at h
    cases m with
    | zero =>
      simp only [List.getElem?_cons_zero, Option.some.injEq] at hf
      subst hf
      have := h.1
      rw [if_pos hc] at this
      exact this
    | succ m =>
      have := readOK_mem h.2 m f (by simpa using hf) hc
      rw [show j + (m + 1) = j + 1 + m from by omega]; exact this

theorem dstFree_some {t cl : Nat} {F : List Fact} (h : dstFree (some t) F cl = true) : (∀ (m : Nat) (g : Fact), F[m]? = some g → g.dst ≠ some t) ∧ ∀ (m : Nat) (f : Fact), F[m]? = some f → f.rd.contains t = true → cl.testBit m = true := by
  simp only [dstFree] at h
  split at h
  · rename_i ho
    exact ⟨fun m g hg => ownOf_none ho m g hg, fun m f hf hc => by have := readOK_mem h m f hf hc; rwa [Nat.zero_add] at this⟩
  · cases h

/-- the front, as far as it has been taken -/
structure Front (K : Cx) (full : List Oper) (heap : Heap) (envB : List (Nat × Ent)) (lo : Nat) (l : List Oper) (q : FS) : Prop where
  len : q.F.length = l.length
  fok : FOK heap q.F lo q.id
  opd : ∀ (j : Nat) (o : Oper), l[j]? = some o → ∃ (f : Fact) (envj : List (Nat × Ent)) (ent : Ent), q.F[j]? = some f ∧ OpD K full heap envB q.env q.F j o f envj ent ∧ (∀ t e, (t, e) ∈ envj → f.rd.contains t = true) ∧ ∃ G : List Fact, (∀ (m : Nat) (g : Fact), G[m]? = some g → q.F[m]? = some g) ∧ clE G o.after.toList = some f.cl
  own : ∀ t e, (t, e) ∈ q.env → ((t, e) ∈ envB ∧ ∀ (m : Nat) (g : Fact), q.F[m]? = some g → g.dst ≠ some t) ∨ ∃ (m : Nat) (g : Fact), q.F[m]? = some g ∧ g.dst = some t
  once : ∀ (m k : Nat) (g g' : Fact) (t : Nat), q.F[m]? = some g → q.F[k]? = some g' → g.dst = some t → g'.dst = some t → m = k

variable {full : List Oper} {heap : Heap} {envB : List (Nat × Ent)} {lo : Nat} {l : List Oper} {q : FS}

theorem del_keep {t0 t : Nat} {e : Ent} (ht : t ≠ t0) : ∀ {env : List (Nat × Ent)}, (t, e) ∈ env → (t, e) ∈ del t0 env
  | [], h => by simp at h
  | (j, f) :: r, h => by
    simp only [del]
    simp only [List.mem_cons, Prod.mk.injEq] at h
    split
    · rename_i hj
      simp only [beq_iff_eq] at hj
      rcases h with ⟨rfl, _⟩ | h
      · exact absurd hj ht
      · exact del_keep ht h
    · rcases h with ⟨rfl, rfl⟩ | h
      · exact List.mem_cons_self ..
      · exact List.mem_cons_of_mem _ (del_keep ht h)

/-- the slots with one set -/
theorem push_env {env : List (Nat × Ent)} {dst : Option Nat} {gs : List (Nat × Bool)} {v : XV} {gs' : List (Nat × Bool)} (hok : okDst K dst gs' env = true) :
    (∀ t e, (t, e) ∈ env → dst ≠ some t → (t, e) ∈ pushE dst env ⟨gs, v⟩ ∧ gBool K (pushE dst env ⟨gs, v⟩) e.gs = gBool K env e.gs) ∧
    (∀ t e, (t, e) ∈ pushE dst env ⟨gs, v⟩ → ((t, e) ∈ env ∧ dst ≠ some t) ∨ (dst = some t ∧ e = ⟨gs, v⟩)) := by
  unfold pushE
  cases dst with
  | none => exact ⟨fun t e h _ => ⟨h, rfl⟩, fun t e h => .inl ⟨h, by simp⟩⟩
  | some t0 =>
    obtain ⟨g1, g2, g3⟩ := okDst_some hok
    refine ⟨fun t e he hne => ⟨List.mem_cons_of_mem _ (del_keep (fun h => hne (by rw [h])) he), gBool_put (mentions_mem g2 he)⟩, fun t e he => ?_⟩
    simp only [put, List.mem_cons, Prod.mk.injEq] at he
    rcases he with ⟨rfl, rfl⟩ | he
    · exact .inr ⟨rfl, rfl⟩
    · obtain ⟨h1, h2⟩ := del_mem he
      exact .inl ⟨h2, fun h => h1 (by simpa using h.symm)⟩

/-- one more -/
theorem Front.push (hF : Front K full heap envB lo l q) {o : Oper} {cl : Nat} (hcl : clE q.F o.after.toList = some cl) {R : List Nat} (hcb : closedB R q.F cl (filt R q.env) = true) (hfr : dstFree o.dst q.F cl = true)
    {gs : List (Nat × Bool)} {v : XV} {new : List Blk} {wr : Heap} {tch : List Nat} {ob : List Bool} (hwk : wrOK tch (keepH tch (hsub heap q.F 0 cl.testBit)) wr = true) (hcm : cmpOK cl (wr.map (·.1)) tch q.F 0 = true) (hok : okDst K o.dst gs q.env = true) (hgs : gs.all (fun g => R.contains g.1) = true)
    (hrun : match guardOf full ⟨filt R q.env, keepH tch (hsub heap q.F 0 cl.testBit), q.id⟩ o with
      | .bad => False
      | .off => new = [] ∧ wr = [] ∧ (⟨gs, v⟩ : Ent) = ⟨[], .c (.s .un)⟩
      | .on => ∃ r, evOp K ⟨filt R q.env, keepH tch (hsub heap q.F 0 cl.testBit), q.id⟩ [] o.op = some r ∧ (∀ b, b ∈ r.ob → b = true) ∧ wr = r.wr ∧ new = r.new ∧ (⟨gs, v⟩ : Ent) = ⟨[], r.val⟩
      | .sym gs' => ∃ r, evOp K ⟨filt R q.env, keepH tch (hsub heap q.F 0 cl.testBit), q.id⟩ gs' o.op = some r ∧ (gBool K (filt R q.env) gs' = true → ∀ b, b ∈ r.ob → b = true) ∧ r.wr = [] ∧ r.new = [] ∧ wr = [] ∧ new = [] ∧ (⟨gs, v⟩ : Ent) = ⟨gs', r.val⟩ ∧ o.dst ≠ none) :
    Front K full heap envB lo (l ++ [o]) (q.push o.dst gs v cl new R wr tch ob) := by
  obtain ⟨p1, p2⟩ := push_env (K := K) (gs := gs) (v := v) hok
  have hno : ∀ t, o.dst = some t → (∀ (m : Nat) (g : Fact), q.F[m]? = some g → g.dst ≠ some t) ∧ ∀ (m : Nat) (f : Fact), q.F[m]? = some f → f.rd.contains t = true → cl.testBit m = true := fun t ht => by
    rw [ht] at hfr; exact dstFree_some hfr
  have hne : ∀ {m : Nat} {g : Fact} {t : Nat}, q.F[m]? = some g → g.dst = some t → o.dst ≠ some t := fun hg hd ht => (hno _ ht).1 _ _ hg hd
  have hFq : (q.push o.dst gs v cl new R wr tch ob).F = q.F ++ [⟨o.dst, cl, q.id, new, R, wr, tch⟩] := rfl
  have henv : (q.push o.dst gs v cl new R wr tch ob).env = pushE o.dst q.env ⟨gs, v⟩ := rfl
  have hbl := clE_lt hF.fok.bits hcl
  have hin : ∀ t, o.dst = some t → (t, (⟨gs, v⟩ : Ent)) ∈ (q.push o.dst gs v cl new R wr tch ob).env := fun t ht => by
    rw [henv, ht]; exact List.mem_cons_self (a := (t, (⟨gs, v⟩ : Ent)))
  exact {
    len := by rw [hFq]; simp [hF.len]
    fok := by rw [hFq]; exact hF.fok.push hcl hwk hcm
    opd := fun j o' ho' => by
      rcases Nat.lt_or_ge j l.length with hj | hj
      · -- an elder one
        rw [List.getElem?_append_left hj] at ho'
        obtain ⟨f, envj, ent, h1, D, hR, G, hG1, hG2⟩ := hF.opd j o' ho'
        refine ⟨f, envj, ent, by rw [hFq]; exact get_old h1, ?_, hR, G, fun m g hg => by rw [hFq]; exact get_old (hG1 m g hg), hG2⟩
        exact {
          sub := fun t e he => by
            rcases D.sub t e he with ⟨s1, s2⟩ | ⟨s1, ⟨m, g, g1, g2, g3⟩, s3⟩
            · refine .inl ⟨s1, fun m g hg hd => ?_⟩
              rw [hFq] at hg
              rcases get_push hg with hg | ⟨rfl, rfl⟩
              · exact s2 m g hg hd
              · exact .inr ((hno t hd).2 j f h1 (hR t e he))
            · obtain ⟨u1, u2⟩ := p1 t e s1 (hne g1 g2)
              exact .inr ⟨u1, ⟨m, g, by rw [hFq]; exact get_old g1, g2, g3⟩, s3.trans u2.symm⟩
          dst := D.dst
          entry := fun t ht => by
            obtain ⟨e1, e2, e3, e4⟩ := D.entry t ht
            have hdn := hne h1 (D.dst.trans ht)
            obtain ⟨u1, u2⟩ := p1 t ent e2 hdn
            refine ⟨e1, u1, fun e he => ?_, e4.trans u2.symm⟩
            rcases p2 t e he with ⟨he, _⟩ | ⟨hd, _⟩
            · exact e3 e he
            · exact absurd hd hdn
          bits := D.bits
          trans := fun m g hg hb => by
            rw [hFq] at hg
            rcases get_push hg with hg | ⟨hm, _⟩
            · exact D.trans m g hg hb
            · have := D.bits m hb
              have := get_lt h1
              omega
          run := by
            have : hsub heap (q.push o.dst gs v cl new R wr tch ob).F 0 f.cl.testBit = hsub heap q.F 0 f.cl.testBit := by
              rw [hFq]
              refine hsub_push ?_
              rw [Nat.zero_add]
              cases hb : f.cl.testBit q.F.length with
              | false => rfl
              | true =>
                have := D.bits _ hb
                have := get_lt h1
                omega
            rw [this]
            exact D.run }
      · -- the new one
        have hjl : j = l.length := by
          have := get_lt ho'
          simp at this
          omega
        subst hjl
        have ho'' : o' = o := by
          rw [List.getElem?_append_right (Nat.le_refl _), Nat.sub_self] at ho'
          simpa using ho'.symm
        subst ho''
        refine ⟨⟨o'.dst, cl, q.id, new, R, wr, tch⟩, filt R q.env, ⟨gs, v⟩, by rw [hFq, ← hF.len]; simp, ?_, fun t e he => (filt_mem he).2, q.F, fun m g hg => by rw [hFq]; exact get_old hg, hcl⟩
        exact {
          sub := fun t e he => by
            obtain ⟨s1, s2⟩ := filt_mem he
            obtain ⟨c1, c2⟩ := closedB_mem hcb he
            cases hw : ownOf t q.F 0 with
            | none =>
              rcases hF.own t e s1 with ⟨h, h'⟩ | ⟨m, g, g1, g2⟩
              · refine .inl ⟨h, fun m g hg hd => ?_⟩
                rw [hFq] at hg
                rcases get_push hg with hg | ⟨rfl, _⟩
                · exact absurd hd (h' m g hg)
                · exact .inl hF.len
              · exact absurd g2 (ownOf_none hw m g g1)
            | some m =>
              obtain ⟨m', g, rfl, g1, g2⟩ := ownOf_some hw
              obtain ⟨u1, u2⟩ := p1 t e s1 (hne g1 g2)
              refine .inr ⟨u1, ⟨m', g, by rw [hFq]; exact get_old g1, g2, ?_⟩, (gBool_filt c1).trans u2.symm⟩
              have := c2 _ hw
              simpa using this
          dst := rfl
          entry := fun t ht => by
            have hok' := hok
            rw [ht] at hok'
            obtain ⟨k1, k2, k3⟩ := okDst_some hok'
            refine ⟨k1, hin t ht, fun e he => ?_, ?_⟩
            · rcases p2 t e he with ⟨_, he⟩ | ⟨_, he⟩
              · exact absurd ht he
              · exact he
            · show gBool K (filt R q.env) gs = gBool K (q.push o'.dst gs v cl new R wr tch ob).env gs
              rw [gBool_filt hgs, henv, ht]
              exact (gBool_put k3).symm
          bits := fun i hi => by rw [← hF.len]; exact hbl i hi
          trans := fun m g hg hb i hi => by
            rw [hFq] at hg
            have hml := hbl m hb
            rcases get_push hg with hg | ⟨hm, _⟩
            · obtain ⟨e, g', b1, b2, b3, b4⟩ := (clE_bits hcl).2 m hb
              obtain ⟨g'', c1, c2, c3⟩ := (clE_bits hcl).1 e b1 b2
              rw [b3] at c1
              simp only [Option.some.injEq] at c1
              subst c1
              rcases b4 with rfl | b4
              · rw [hg] at b3; simp only [Option.some.injEq] at b3; subst b3; exact c3 i hi
              · have hlt := get_lt b3
                have : e.on < l.length := by rw [← hF.len]; exact hlt
                obtain ⟨oe, hoe⟩ : ∃ oe, l[e.on]? = some oe := ⟨l[e.on], by simp⟩
                obtain ⟨fe, _, _, d1, D, _, _⟩ := hF.opd e.on oe hoe
                rw [b3] at d1
                simp only [Option.some.injEq] at d1
                subst d1
                exact c3 i (D.trans m g hg b4 i hi)
            · omega
          run := by
            have : hsub heap (q.push o'.dst gs v cl new R wr tch ob).F 0 cl.testBit = hsub heap q.F 0 cl.testBit := by
              rw [hFq]
              refine hsub_push ?_
              rw [Nat.zero_add]
              cases hb : cl.testBit q.F.length with
              | false => rfl
              | true => have := hbl _ hb; omega
            show match guardOf full ⟨filt R q.env, keepH tch (hsub heap (q.push o'.dst gs v cl new R wr tch ob).F 0 cl.testBit), q.id⟩ o' with
              | .bad => False
              | .off => new = [] ∧ wr = [] ∧ (⟨gs, v⟩ : Ent) = ⟨[], .c (.s .un)⟩
              | .on => ∃ r, evOp K ⟨filt R q.env, keepH tch (hsub heap (q.push o'.dst gs v cl new R wr tch ob).F 0 cl.testBit), q.id⟩ [] o'.op = some r ∧ (∀ b, b ∈ r.ob → b = true) ∧ wr = r.wr ∧ new = r.new ∧ (⟨gs, v⟩ : Ent) = ⟨[], r.val⟩
              | .sym gs' => ∃ r, evOp K ⟨filt R q.env, keepH tch (hsub heap (q.push o'.dst gs v cl new R wr tch ob).F 0 cl.testBit), q.id⟩ gs' o'.op = some r ∧ (gBool K (filt R q.env) gs' = true → ∀ b, b ∈ r.ob → b = true) ∧ r.wr = [] ∧ r.new = [] ∧ wr = [] ∧ new = [] ∧ (⟨gs, v⟩ : Ent) = ⟨gs', r.val⟩ ∧ o'.dst ≠ none
            rw [this]
            exact hrun }
    own := fun t e he => by
      rcases p2 t e he with ⟨he, hd⟩ | ⟨hd, _⟩
      · rcases hF.own t e he with ⟨h, h'⟩ | ⟨m, g, g1, g2⟩
        · refine .inl ⟨h, fun m g hg hdg => ?_⟩
          rw [hFq] at hg
          rcases get_push hg with hg | ⟨_, rfl⟩
          · exact h' m g hg hdg
          · exact hd hdg
        · exact .inr ⟨m, g, by rw [hFq]; exact get_old g1, g2⟩
      · exact .inr ⟨q.F.length, ⟨o.dst, cl, q.id, new, R, wr, tch⟩, by rw [hFq]; simp, hd⟩
    once := fun m k g g' t hg hg' hd hd' => by
      rw [hFq] at hg hg'
      rcases get_push hg with hg | ⟨rfl, rfl⟩
      · rcases get_push hg' with hg' | ⟨rfl, rfl⟩
        · exact hF.once m k g g' t hg hg' hd hd'
        · exact absurd hd' (hne hg hd)
      · rcases get_push hg' with hg' | ⟨rfl, rfl⟩
        · exact absurd hd (hne hg' hd')
        · rfl }

theorem gImp_id (hA : K.A = stdA) {g : Bool} {l : List Bool} (h : ∀ b, b ∈ gImp K g l → b = true) (hg : g = true) : ∀ b, b ∈ l → b = true := gImp_sound hA hg h

theorem frontOp_sound (hA : K.A = stdA) (hF : Front K full heap envB lo l q) {o : Oper} {q' : FS} (h : frontOp K full heap q o = some q') (hob : ∀ b, b ∈ q'.ob → b = true) :
    Front K full heap envB lo (l ++ [o]) q' ∧ ∀ b, b ∈ q.ob → b ∈ q'.ob := by
  unfold frontOp at h
  split at h
  · simp at h
  · rename_i cl hcl
    simp only at h
    split at h
    · rename_i hc
      simp only [Bool.and_eq_true] at hc
      obtain ⟨hc1, hc2⟩ := hc
      split at h
      · simp at h
      · rename_i hG
        split at h
        · rename_i hok
          simp only [Bool.and_eq_true] at hok
          simp only [Option.some.injEq] at h
          subst h
          exact ⟨hF.push hcl hc1 hc2 rfl hok.2 hok.1 rfl (by rw [hG]; exact ⟨rfl, rfl, rfl⟩), fun b hb => List.mem_append_left _ hb⟩
        · simp at h
      · rename_i hG
        split at h
        · rename_i r hr
          split at h
          · rename_i hok
            simp only [Bool.and_eq_true] at hok
            simp only [Option.some.injEq] at h
            subst h
            exact ⟨hF.push hcl hc1 hc2 hok.1.2 hok.2 hok.1.1 rfl (by rw [hG]; exact ⟨r, hr, fun b hb => hob b (List.mem_append_right _ hb), rfl, rfl, rfl⟩), fun b hb => List.mem_append_left _ hb⟩
          · simp at h
        · simp at h
      · rename_i gs hG
        split at h
        · rename_i r hr
          split at h
          · rename_i hwr hnew
            split at h
            · rename_i hok
              simp only [Bool.and_eq_true] at hok
              simp only [Option.some.injEq] at h
              subst h
              have hn : o.dst ≠ none := fun hn => by rw [hn] at hok; simp at hok
              exact ⟨hF.push hcl hc1 hc2 rfl hok.2 hok.1.1.2 hok.1.2 (by rw [hG]; exact ⟨r, hr, gImp_id hA fun b hb => hob b (List.mem_append_right _ hb), hwr, hnew, rfl, rfl, rfl, hn⟩), fun b hb => List.mem_append_left _ hb⟩
            · simp at h
          · simp at h
        · simp at h
    · simp at h

theorem frontOp_ob {o : Oper} {q' : FS} (h : frontOp K full heap q o = some q') : ∀ b, b ∈ q.ob → b ∈ q'.ob := by
  unfold frontOp at h
  split at h
  · simp at h
  · simp only at h
    split at h
    · split at h
      · simp at h
      · split at h
        · simp only [Option.some.injEq] at h; subst h; exact fun b hb => List.mem_append_left _ hb
        · simp at h
      · split at h
        · split at h
          · simp only [Option.some.injEq] at h; subst h; exact fun b hb => List.mem_append_left _ hb
          · simp at h
        · simp at h
      · split at h
        · split at h
          · split at h
            · simp only [Option.some.injEq] at h; subst h; exact fun b hb => List.mem_append_left _ hb
            · simp at h
          · simp at h
        · simp at h
    · simp at h

theorem frontOps_ob : ∀ {r : List Oper} {q q' : FS}, frontOps K full heap r q = some q' → ∀ b, b ∈ q.ob → b ∈ q'.ob
  | [], q, q', h => by simp only [frontOps, Option.some.injEq] at h; subst h; exact fun _ h => h
  | o :: r, q, q', h => by
    simp only [frontOps] at h
    split at h
    · rename_i q1 h1
      exact fun b hb => frontOps_ob h b (frontOp_ob h1 b hb)
    · simp at h

theorem frontOps_sound (hA : K.A = stdA) : ∀ {r l : List Oper} {q q' : FS}, Front K full heap envB lo l q → frontOps K full heap r q = some q' → (∀ b, b ∈ q'.ob → b = true) → Front K full heap envB lo (l ++ r) q'
  | [], l, q, q', hF, h, _ => by simp only [frontOps, Option.some.injEq] at h; subst h; simpa using hF
  | o :: r, l, q, q', hF, h, hob => by
    simp only [frontOps] at h
    split at h
    · rename_i q1 h1
      have := frontOps_sound hA (frontOp_sound hA hF h1 fun b hb => hob b (frontOps_ob h b hb)).1 h hob
      simpa using this
    · simp at h


theorem count_add1 {E : Nat → Bool} {j : Nat} (hE : E j = false) : ∀ {m : Nat}, (List.range m).countP (add1 E j) = (List.range m).countP E + if j < m then 1 else 0
  | 0 => by simp
  | m + 1 => by
    rw [List.range_succ, List.countP_append, List.countP_append, count_add1 hE]
    simp only [List.countP_cons, List.countP_nil, Nat.zero_add]
    by_cases hj : j = m
    · subst hj
      simp [add1, hE]
    · have h1 : add1 E j m = E m := by
        have hne : (m == j) = false := by simpa using fun e : m = j => hj e.symm
        simp [add1, hne]
      rw [h1]
      by_cases hlt : j < m
      · simp only [hlt, if_true, show j < m + 1 from by omega]; omega
      · simp only [hlt, if_false, show ¬ j < m + 1 from by omega]; omega

theorem count_le {E : Nat → Bool} {m : Nat} : (List.range m).countP E ≤ m := by
  have := List.countP_le_length (p := E) (l := List.range m)
  simpa using this

theorem count_full {E : Nat → Bool} {m : Nat} (h : (List.range m).countP E = m) : ∀ i, i < m → E i = true := fun i hi => by
  have h2 : (List.range m).countP E = (List.range m).length := by simpa using h
  exact (List.countP_eq_length.1 h2) i (by simpa using hi)

/-- the whole region, from whatever part of the front on -/
theorem front_any (hA : K.A = stdA) (hT : TOK P K.T) (hC : COK P K.C) {ops : Array Oper} {fr tl : List Oper} (hops : ops.toList = fr ++ tl) {Q : Exit → Act → World → Prop}
    {n0 : Ids} (hF : Front K (fr ++ tl) heap envB lo fr q) (htl : tailOK q.F tl fr.length = true) (hn0 : ∀ i, n0 i → i < lo) (hB : ∀ t e, (t, e) ∈ envB → e.gs = [])
    (hend : ∀ ρ n a w, Sat K w0 Wr ρ n ⟨q.env, hsub heap q.F 0 (fun _ => true), q.id⟩ a w → wpList P ops Q tl a w) :
    ∀ (fuel : Nat) (listed : Array Bool) (a : Act) (w : World), ops.size ≤ (List.range fr.length).countP (fun i => listed.getD i false) + fuel → listed.size = ops.size →
      (∀ i, listed.getD i false = true → i < fr.length) → (∃ ρ, FInv K w0 Wr n0 heap envB q.env q.F ρ (fun i => listed.getD i false) a w) → wpAny P .any ops Q fuel listed a w := by
  have hsize : ops.size = fr.length + tl.length := by rw [← Array.length_toList, hops, List.length_append]
  intro fuel
  have hdone : ∀ (fuel : Nat) (listed : Array Bool) (a : Act) (w : World), ops.size ≤ (List.range fr.length).countP (fun i => listed.getD i false) + fuel → listed.size = ops.size →
      (∀ i, listed.getD i false = true → i < fr.length) → (∃ ρ, FInv K w0 Wr n0 heap envB q.env q.F ρ (fun i => listed.getD i false) a w) → (∀ i, i < fr.length → listed.getD i false = true) → wpAny P .any ops Q fuel listed a w := by
    intro fuel listed a w hfu hsz hfr ⟨ρ, hI⟩ hall
    have hE : ∀ m, m < q.F.length → listed.getD m false = true := fun m hm => hall m (by rw [← hF.len]; exact hm)
    have hsame : hsub heap q.F 0 (fun i => listed.getD i false) = hsub heap q.F 0 (fun _ => true) := by
      exact hsub_same fun m hm => by rw [Nat.zero_add]; exact hE m hm
    refine tail_any tl q.F fuel listed a w (by have := count_le (E := fun i => listed.getD i false) (m := fr.length); omega) hF.fok.bits (by rw [hF.len]; exact htl) (fun i => ?_) (by rw [hF.len]; omega) hsz (fun i hi => ?_) (hend ρ (idsOf n0 q.F (fun i => listed.getD i false)) a w ?_)
    · have : ops.toList[q.F.length + i]? = tl[i]? := by
        rw [hops, hF.len, List.getElem?_append_right (by omega)]; congr 1; omega
      rw [← this]; simp
    · have hil : i < listed.size := by omega
      have e1 : listed.getD i true = listed.getD i false := by simp [Array.getD, hil]
      rw [e1, hF.len]
      exact ⟨hfr i, hall i⟩
    · exact {
        size := hI.size
        defers := hI.defers
        env := fun t e he => by
          rcases hF.own t e he with ⟨h, h'⟩ | ⟨m, g, g1, g2⟩
          · obtain ⟨h1, h2⟩ := hI.base t e h fun m g hg hd => absurd hd (h' m g hg)
            rw [hB t e h]
            exact ⟨fun _ => ⟨h1, h2.mono fun _ => .inl⟩, fun h => by simp [gBool] at h⟩
          · have hm := hE m (get_lt g1)
            obtain ⟨h1, h2⟩ := hI.fact m g t e g1 hm g2 he
            refine ⟨fun hg => ⟨(h1 hg).1, (h1 hg).2.mono fun i => idsOf_mono fun p hp => ?_⟩, h2⟩
            simp only [cl1, Bool.or_eq_true, beq_iff_eq] at hp
            rcases hp with rfl | hp
            · exact hm
            · exact hI.cl m g g1 hm p hp
        hs := by
          show HS w0 Wr ρ (hsub heap q.F 0 fun _ => true) _ w
          rw [← hsame]; exact hI.hs
        lt := fun i hi => by
          show i < q.id
          rcases hi with hi | ⟨m, g, g1, g2, g3, g4⟩
          · have := hn0 i hi; have := hF.fok.ord.le; omega
          · have := (OrdF.get hF.fok.ord g1).2; omega }
  induction fuel with
  | zero =>
    intro listed a w hfu hsz hfr hI
    have hc := count_le (E := fun i => listed.getD i false) (m := fr.length)
    exact hdone 0 listed a w hfu hsz hfr hI (count_full (by omega))
  | succ fuel ih =>
    intro listed a w hfu hsz hfr hI
    by_cases hall : ∀ i, i < fr.length → listed.getD i false = true
    · exact hdone (fuel + 1) listed a w hfu hsz hfr hI hall
    · obtain ⟨ρ, hI⟩ := hI
      -- the front is not done: the least one that is left may run
      have hex : ∃ j, j < fr.length ∧ listed.getD j false = false := by
        simp only [Classical.not_forall] at hall
        obtain ⟨j, hj, hn⟩ := hall
        exact ⟨j, hj, by simpa using hn⟩
      have hget : ∀ j, j < fr.length → ∃ o, fr[j]? = some o ∧ ops[j]? = some o := fun j hj => by
        refine ⟨fr[j], by simp, ?_⟩
        have : ops.toList[j]? = some fr[j] := by rw [hops, List.getElem?_append_left hj]; simp
        simpa using this
      have hclo : ∀ (o : Oper) (G : List Fact) (cl : Nat), (∀ (m : Nat) (g : Fact), G[m]? = some g → q.F[m]? = some g ∨ fr.length ≤ m) → clE G o.after.toList = some cl → (∀ e, e ∈ o.after → Region.binds .any e = true → listed.getD e.on false = true) → ∀ i, cl.testBit i = true → listed.getD i false = true := by
        intro o G cl hG hcl he i hi
        obtain ⟨e, g, h1, h2, h3, h4⟩ := (clE_bits hcl).2 i hi
        have hl := he e (by simpa using h1) h2
        rcases h4 with rfl | h4
        · exact hl
        · rcases hG _ _ h3 with h5 | h5
          · exact hI.cl _ _ h5 hl i h4
          · have := hfr _ hl; omega
      refine ⟨fun h0 => ?_, fun i hi => ?_⟩
      · -- something is ready
        exfalso
        obtain ⟨j, hj⟩ := hex
        have : ∃ j, (j < fr.length ∧ listed.getD j false = false) ∧ ∀ i, i < j → ¬ (i < fr.length ∧ listed.getD i false = false) := by
          induction j using Nat.strongRecOn with
          | _ j ihj =>
            by_cases h : ∃ i, i < j ∧ (i < fr.length ∧ listed.getD i false = false)
            · obtain ⟨i, h1, h2⟩ := h; exact ihj i h1 h2
            · exact ⟨j, hj, fun i hi h' => h ⟨i, hi, h'⟩⟩
        obtain ⟨j, ⟨hj1, hj2⟩, hmin⟩ := this
        obtain ⟨o, ho1, ho2⟩ := hget j hj1
        obtain ⟨f, envj, ent, hf, D, _, G, hG1, hG2⟩ := hF.opd j o ho1
        have hjl : j < listed.size := by omega
        have hmem : j ∈ Region.ready .any ops listed := by
          refine mem_ready.2 ⟨?_, o, ho2, fun e he hb => ?_⟩
          · simp only [Array.getD, hjl, dif_pos] at hj2 ⊢; exact hj2
          · obtain ⟨g, g1, g2, _⟩ := (clE_bits hG2).1 e (by simpa using he) hb
            have hlt := D.bits _ g2
            have hn := hmin e.on hlt
            cases hc : listed.getD e.on false with
            | true => rfl
            | false => exact absurd ⟨by omega, hc⟩ hn
        rw [h0] at hmem
        simp at hmem
      · obtain ⟨h1, o, ho, hall'⟩ := mem_ready.1 hi
        have hilt : i < ops.size := by
          rcases Nat.lt_or_ge i ops.size with h | h
          · exact h
          · rw [Array.getElem?_eq_none h] at ho; simp at ho
        have hil : i < listed.size := by omega
        by_cases hif : i < fr.length
        · obtain ⟨o', ho1, ho2⟩ := hget i hif
          rw [ho] at ho2
          simp only [Option.some.injEq] at ho2
          subst ho2
          obtain ⟨f, envj, ent, hf, D, _, G, hG1, hG2⟩ := hF.opd i o ho1
          have hcl := hclo o G f.cl (fun m g hg => .inl (hG1 m g hg)) hG2 hall'
          have hE : (fun i => listed.getD i false) i = false := by
            simp only [Array.getD, hil, dif_pos] at h1 ⊢; exact h1
          have hst := front_step (Q := Q) hA hT hC hops hI hF.fok hn0 hB hE D hf ho hcl
            (fun m g t hg hne hd hgd => hne (hF.once m i g f t hg hf hgd (by rw [D.dst]; exact hd)))
          refine wpOp_mono (fun a' w' h' => ?_) hst
          have hadd : (fun k => (listed.setIfInBounds i true).getD k false) = add1 (fun k => listed.getD k false) i := by
            funext k
            by_cases hk : k = i
            · subst hk; simp [add1, Array.getD, hil]
            · rw [getD_set_ne false (fun e => hk e.symm)]; simp [add1, hk]
          refine ih _ a' w' ?_ (by simpa using hsz) (fun k hk => ?_) ?_
          · rw [hadd, count_add1 hE, if_pos hif]; omega
          · have hk' : add1 (fun k => listed.getD k false) i k = true := by rw [← hadd]; exact hk
            rcases add1_cases hk' with rfl | hk'
            · exact hif
            · exact hfr k hk'
          · rw [hadd]; exact h'
        · -- an operation of the tail needs all of the front
          exfalso
          have key : ∀ (tl' : List Oper) (G : List Fact), q.F.length ≤ G.length → (∀ (m : Nat) (g : Fact), G[m]? = some g → q.F[m]? = some g ∨ fr.length ≤ m) → tailOK G tl' G.length = true → ∀ (m : Nat) (o'' : Oper), tl'[m]? = some o'' → (∀ e, e ∈ o''.after → Region.binds .any e = true → listed.getD e.on false = true) → ∀ k, k < fr.length → listed.getD k false = true := by
            intro tl'
            induction tl' with
            | nil => intro G _ _ _ m o'' hm; simp at hm
            | cons x r ihx =>
              intro G hlG hG htG m o'' hm hal
              simp only [tailOK] at htG
              split at htG
              · rename_i cl' hcl'
                simp only [Bool.and_eq_true] at htG
                cases m with
                | zero =>
                  simp only [List.getElem?_cons_zero, Option.some.injEq] at hm
                  subst hm
                  intro k hk
                  exact hclo x G cl' hG hcl' hal k (full_bits htG.1 (by rw [← hF.len] at hk; omega))
                | succ m =>
                  refine ihx (G ++ [⟨none, cl', 0, [], [], [], []⟩]) (by simp; omega) (fun m g hg => ?_) (by simpa using htG.2) m o'' (by simpa using hm) hal
                  rcases get_push hg with hg | ⟨rfl, _⟩
                  · exact hG m g hg
                  · exact .inr (by rw [← hF.len]; exact hlG)
              · simp at htG
          have hm : tl[i - fr.length]? = some o := by
            have : ops.toList[i]? = some o := by simpa using ho
            rw [hops, List.getElem?_append_right (by omega)] at this
            exact this
          exact hall (key tl q.F (Nat.le_refl _) (fun m g hg => .inl hg) (by rw [hF.len]; exact htl) _ o hm hall')

theorem delAll_mem {t : Nat} {e : Ent} : ∀ {l : List Oper} {env : List (Nat × Ent)}, (t, e) ∈ delAll l env → (t, e) ∈ env
  | [], _, h => h
  | o :: r, env, h => by
    simp only [delAll] at h
    split at h
    · exact (del_mem (delAll_mem h)).2
    · exact delAll_mem h

theorem runDrawBy_sound (hA : K.A = stdA) (hT : TOK P K.T) (hC : COK P K.C) (hm : P.follows .mixedOrders = true) {id : Nat} {ops : Array Oper} {s : St} {k : St → Prop} {Q : Exit → Act → World → Prop}
    (hQ : ∀ s, k s → ∀ ρ n a w, Sat K w0 Wr ρ n s a w → Q .normal a w) (p : Op → Bool) {els : Prop} (h : runDrawBy K p ops.toList s k els) (hcl : ∀ t e, (t, e) ∈ s.env → e.gs = []) {ρ : Rho} {n : Ids} {a : Act} {w : World} (hs : Sat K w0 Wr ρ n s a w) (hels : els → (Code.region id ops true).wp P Q a w) :
    (Code.region id ops true).wp P Q a w := by
  unfold runDrawBy at h
  simp only at h
  generalize hfr : ops.toList.takeWhile (fun o => p o.op) = fr at h
  generalize htl : ops.toList.dropWhile (fun o => p o.op) = tl at h
  have hops : ops.toList = fr ++ tl := by rw [← hfr, ← htl, List.takeWhile_append_dropWhile]
  split at h
  · rename_i q hq
    split at h
    · rename_i ht
      refine wp_region_any hm ?_
      obtain ⟨hob, hrun⟩ := AllT_sound h
      have hF0 : Front K (fr ++ tl) s.heap s.env s.nid [] ⟨s.env, [], [], s.nid⟩ := {
        len := rfl
        fok := ⟨rfl, fun m f hf => by simp at hf, fun id b hl => hs.lt id (hs.hs.ok id b hl).1, fun m f hf => by simp at hf, fun m f i b hf => by simp at hf, fun m k f g hf => by simp at hf, fun k g i b hg => by simp at hg⟩
        opd := fun j o ho => by simp at ho
        own := fun t e he => .inl ⟨he, fun m g hg => by simp at hg⟩
        once := fun m k g g' t hg => by simp at hg }
      rw [hops] at hq hrun
      have hF := frontOps_sound hA hF0 hq hob
      rw [List.nil_append] at hF
      have hmod : Sat K w0 Wr ρ n s a { w with drawn := w.drawn + 1 } := ⟨hs.size, hs.defers, hs.env, hs.hs.below ((RowKit.Below.refl _ _).drew), hs.lt⟩
      refine front_any hA hT hC hops hF ht (n0 := n) hs.lt hcl (fun ρ' n' a' w' h' => runOps_sound hA hT hC hops hQ tl _ hrun ρ' n' a' w' h') ops.size _ a _ (by omega) (by simp) (fun i hi => ?_) ⟨ρ, ?_⟩
      · simp [Array.getD] at hi
      · have hE : ∀ i, (Array.replicate ops.size false).getD i false = false := fun i => by simp [Array.getD]
        exact {
          size := hmod.size
          defers := hmod.defers
          base := fun t e h1 _ => by
            have h2 := (hmod.env t e h1).1
            rw [hcl t e h1] at h2
            exact h2 rfl
          fact := fun m f t e _ hm => by rw [hE] at hm; cases hm
          hs := by
            refine hmod.hs.part (n' := idsOf n q.F fun i => (Array.replicate ops.size false).getD i false) (fun i hi => .inl (hmod.hs.inn i hi)) fun id b hl => ?_
            rw [look_hsub hF.fok.nd, foldE_none fun m f _ hm => by rw [hE] at hm; cases hm] at hl
            obtain ⟨g1, g2, g3⟩ := hmod.hs.ok id b hl
            exact ⟨hl, .inl g1, Blk.stb_move g3 (Agree.refl _ _) fun _ => .inl⟩
          bstb := fun m f q b _ hm => by rw [hE] at hm; cases hm
          wstb := fun m f i b _ hm => by rw [hE] at hm; cases hm
          hb := fun id b hl => by
            obtain ⟨g1, _, g3⟩ := hmod.hs.ok id b hl
            exact ⟨g1, g3⟩
          cl := fun m f _ hm => by rw [hE] at hm; cases hm
          inn := hmod.hs.inn }
    · exact hels h
  · exact hels h

theorem runDraw_sound (hA : K.A = stdA) (hT : TOK P K.T) (hC : COK P K.C) (hm : P.follows .mixedOrders = true) {id : Nat} {ops : Array Oper} {s : St} {k : St → Prop} {Q : Exit → Act → World → Prop}
    (hQ : ∀ s, k s → ∀ ρ n a w, Sat K w0 Wr ρ n s a w → Q .normal a w) (h : runDraw K ops.toList s k) (hcl : ∀ t e, (t, e) ∈ s.env → e.gs = []) {ρ : Rho} {n : Ids} {a : Act} {w : World} (hs : Sat K w0 Wr ρ n s a w) :
    (Code.region id ops true).wp P Q a w := by
  unfold runDraw at h
  split at h
  · exact runDrawBy_sound hA hT hC hm hQ _ h hcl hs fun h2 => runDrawBy_sound hA hT hC hm hQ _ h2 hcl hs fun h3 => runDrawBy_sound hA hT hC hm hQ _ h3 hcl hs fun h4 => h4.elim
  · split at h
    · exact runDrawBy_sound hA hT hC hm hQ _ h hcl hs fun h2 => runDrawBy_sound hA hT hC hm hQ _ h2 hcl hs fun h4 => h4.elim
    · exact runDrawBy_sound hA hT hC hm hQ _ h hcl hs fun h4 => h4.elim

end
end Go.Eng
