/- The engine, part O: loops. -/
import Derived.Test.YtmajpppjakdodaaEngN
set_option linter.all false
set_option exponentiation.threshold 3000
namespace Go.Eng

def Sc.lt (m : Nat) : Sc → Bool
  | .hp id _ => decide (id < m)
  | .pe id _ _ _ _ => decide (id < m)
  | .hs id => decide (id < m)
  | .ve id _ _ _ => decide (id < m)
  | .hw id _ _ _ => decide (id < m)
  | .ha id _ _ _ _ _ => decide (id < m)
  | .hm id => decide (id < m)
  | .fn _ caps => caps.all fun c => decide (c.1 < m)
  | _ => true

def ltL (m : Nat) : List At → Bool
  | [] => true
  | .s x :: r => x.lt m && ltL m r
  | _ :: r => ltL m r

def CV.lt (m : Nat) : CV → Bool
  | .s x => x.lt m
  | .g l => ltL m l

def XV.lt (m : Nat) : XV → Bool
  | .c v => v.lt m
  | .t l => l.all fun v => v.lt m

def Blk.lt (m : Nat) : Blk → Bool
  | .fix _ l => ltL m l
  | .vec _ _ _ => true
  | .gone => true

theorem Sc.lt_den {m : Nat} {x : Sc} (h : x.lt m = true) {ρ ρ' : Rho} (ha : Agree (fun i => i < m) ρ ρ') : x.den ρ' = x.den ρ := by
  cases x with
  | hp id off => simp only [Sc.lt, decide_eq_true_eq] at h; simp only [Sc.den]; rw [ha id h]
  | pe id b e i off => simp only [Sc.lt, decide_eq_true_eq] at h; simp only [Sc.den]; rw [ha id h]
  | hs id => simp only [Sc.lt, decide_eq_true_eq] at h; simp only [Sc.den]; rw [ha id h]
  | ve id e i off => simp only [Sc.lt, decide_eq_true_eq] at h; simp only [Sc.den]; rw [ha id h]
  | hw id e i off => simp only [Sc.lt, decide_eq_true_eq] at h; simp only [Sc.den]; rw [ha id h]
  | ha id e f i off c => simp only [Sc.lt, decide_eq_true_eq] at h; simp only [Sc.den]; rw [ha id h]
  | hm id => simp only [Sc.lt, decide_eq_true_eq] at h; simp only [Sc.den]; rw [ha id h]
  | fn f caps =>
    simp only [Sc.lt, List.all_eq_true, decide_eq_true_eq] at h
    simp only [Sc.den]
    congr 2
    exact List.map_congr_left fun c hc => by rw [ha c.1 (h c hc)]
  | _ => rfl

theorem ltL_flats {m : Nat} {ρ ρ' : Rho} (ha : Agree (fun i => i < m) ρ ρ') : ∀ {l : List At}, ltL m l = true → flats ρ' l = flats ρ l
  | [], _ => rfl
  | a :: r, h => by
    have hc : a.cells ρ' = a.cells ρ ∧ ltL m r = true := by
      cases a with
      | s x => simp only [ltL, Bool.and_eq_true] at h; exact ⟨by simp [At.cells, Sc.lt_den h.1 ha], h.2⟩
      | _ => exact ⟨rfl, h⟩
    simp only [flats]
    rw [hc.1, ltL_flats ha hc.2]

theorem CV.lt_den {m : Nat} {x : CV} (h : x.lt m = true) {ρ ρ' : Rho} (ha : Agree (fun i => i < m) ρ ρ') : x.den ρ' = x.den ρ := by
  cases x with
  | s x => exact Sc.lt_den h ha
  | g l => simp only [CV.den]; rw [ltL_flats ha h]

theorem XV.lt_den {m : Nat} {x : XV} (h : x.lt m = true) {ρ ρ' : Rho} (ha : Agree (fun i => i < m) ρ ρ') : x.den ρ' = x.den ρ := by
  cases x with
  | c x => exact CV.lt_den h ha
  | t l =>
    simp only [XV.lt, List.all_eq_true] at h
    simp only [XV.den]
    congr 2
    exact List.map_congr_left fun c hc => CV.lt_den (h c hc) ha

/-- the slots of one state tell those of another one -/
def LeEnv (env : List (Nat × Ent)) : List (Nat × Ent) → Prop
  | [] => True
  | (t, e') :: r => (match look env t with
    | some e => e.gs = [] ∧ e'.gs = [] ∧ ∀ ρ, e.v.den ρ = e'.v.den ρ
    | none => False) ∧ LeEnv env r

def BlkLe : Blk → Blk → Prop
  | .fix o l, .fix o' l' => o = o' ∧ sizes l = sizes l' ∧ ∀ ρ, flats ρ l = flats ρ l'
  | .vec o k l, .vec o' k' l' => o = o' ∧ l.length = l'.length ∧ k.esz = k'.esz ∧ k.flat l = k'.flat l' ∧ (l = [] → l' = [])
  | _, _ => False

def LeHeap (h : Heap) : Heap → Prop
  | [] => True
  | (id, b') :: r => (match look h id with
    | some b => BlkLe b b'
    | none => False) ∧ LeHeap h r

def ltEnv (m : Nat) : List (Nat × Ent) → Bool
  | [] => true
  | (_, e) :: r => e.v.lt m && ltEnv m r

def ltHeap (m : Nat) : Heap → Bool
  | [] => true
  | (id, b) :: r => decide (id < m) && b.lt m && ltHeap m r

structure LeS (s s' : St) : Prop where
  env : LeEnv s.env s'.env
  heap : LeHeap s.heap s'.heap
  lte : ltEnv s'.nid s'.env = true
  lth : ltHeap s'.nid s'.heap = true

theorem LeEnv_mem {env : List (Nat × Ent)} {t : Nat} {e' : Ent} : ∀ {env' : List (Nat × Ent)}, LeEnv env env' → (t, e') ∈ env' → ∃ e, (t, e) ∈ env ∧ e.gs = [] ∧ e'.gs = [] ∧ ∀ ρ, e.v.den ρ = e'.v.den ρ
  | [], _, h => by simp at h
  | (j, f) :: r, h, hm => by
    simp only [LeEnv] at h
    simp only [List.mem_cons, Prod.mk.injEq] at hm
    rcases hm with ⟨rfl, rfl⟩ | hm
    · have h1 := h.1
      split at h1
      · rename_i e hl; exact ⟨e, look_mem hl, h1⟩
      · exact h1.elim
    · exact LeEnv_mem h.2 hm

theorem LeHeap_look {h : Heap} {id : Nat} {b' : Blk} : ∀ {h' : Heap}, LeHeap h h' → look h' id = some b' → ∃ b, look h id = some b ∧ BlkLe b b'
  | [], _, hl => by simp [look] at hl
  | (j, c) :: r, hh, hl => by
    simp only [LeHeap] at hh
    simp only [look] at hl
    split at hl
    · rename_i hj
      simp only [beq_iff_eq] at hj
      simp only [Option.some.injEq] at hl
      subst hj hl
      have h1 := hh.1
      split at h1
      · rename_i b hb; exact ⟨b, hb, h1⟩
      · exact h1.elim
    · exact LeHeap_look hh.2 hl

theorem ltEnv_mem {m t : Nat} {e : Ent} : ∀ {env : List (Nat × Ent)}, ltEnv m env = true → (t, e) ∈ env → e.v.lt m = true
  | [], _, h => by simp at h
  | (j, f) :: r, h, hm => by
    simp only [ltEnv, Bool.and_eq_true] at h
    simp only [List.mem_cons, Prod.mk.injEq] at hm
    rcases hm with ⟨_, rfl⟩ | hm
    · exact h.1
    · exact ltEnv_mem h.2 hm

theorem ltHeap_look {m id : Nat} {b : Blk} : ∀ {h : Heap}, ltHeap m h = true → look h id = some b → id < m ∧ b.lt m = true
  | [], _, hl => by simp [look] at hl
  | (j, c) :: r, hh, hl => by
    simp only [ltHeap, Bool.and_eq_true, decide_eq_true_eq] at hh
    simp only [look] at hl
    split at hl
    · rename_i hj
      simp only [beq_iff_eq] at hj
      simp only [Option.some.injEq] at hl
      subst hj hl
      exact hh.1
    · exact ltHeap_look hh.2 hl

theorem BlkLe.own {b b' : Blk} (h : BlkLe b b') : b.own = b'.own := by
  cases b <;> cases b' <;> simp only [BlkLe] at h
  · exact h.1
  · exact h.1

theorem BlkLe.live {b b' : Blk} (h : BlkLe b b') : b.live = b'.live := by
  cases b <;> cases b' <;> simp only [BlkLe] at h <;> rfl

theorem BlkLe.ok {b b' : Blk} (h : BlkLe b b') {w : World} {v : Value} {ρ : Rho} (hk : b.ok w v ρ) : b'.ok w v ρ := by
  cases b with
  | fix o l =>
    cases b' with
    | fix o' l' =>
      obtain ⟨rfl, h2, h3⟩ := h
      obtain ⟨b, o', rfl, hb, hr, ht⟩ := hk
      exact ⟨b, o', rfl, hb, by rw [← h3 ρ]; exact hr, fun e => by rw [← h2]; exact ht e⟩
    | vec => exact h.elim
    | gone => exact h.elim
  | gone => exact h.elim
  | vec o k l =>
    cases b' with
    | fix => exact h.elim
    | gone => exact h.elim
    | vec o' k' l' =>
      obtain ⟨rfl, h2, h3, h4, h5⟩ := h
      obtain ⟨base, cap, rfl, hc, hm⟩ := hk
      refine ⟨base, cap, by rw [h2], by omega, ?_⟩
      cases base with
      | none => exact ⟨h5 hm.1, hm.2⟩
      | some a =>
        obtain ⟨b, o', rfl, hb, hr, ht⟩ := hm
        exact ⟨b, o', rfl, hb, by rw [← h4]; exact hr, fun e => by rw [← h3]; exact ht e⟩

theorem LeS.sat {K : Cx} {s s' : St} (h : LeS s s') {w0 : World} {Wr : Base} (hb : ∀ i, Wr.ids i → i < s'.nid) {ρ : Rho} {n : Ids} {a : Act} {w : World} (hs : Sat K w0 Wr ρ n s a w) :
    Sat K w0 Wr ρ (fun i => i < s'.nid) s' a w where
  size := hs.size
  defers := hs.defers
  env t e' he := by
    obtain ⟨e, h1, h2, h3, h4⟩ := LeEnv_mem h.env he
    have h5 := hs.env t e h1
    rw [h2] at h5
    rw [h3]
    refine ⟨fun _ => ⟨by rw [← h4]; exact (h5.1 rfl).1, fun ρ' ha => XV.lt_den (ltEnv_mem h.lte he) ha⟩, fun hf => by simp [gBool] at hf⟩
  hs := {
    one := hs.hs.one
    ok := fun id b' hl => by
      obtain ⟨b, h1, h2⟩ := LeHeap_look h.heap hl
      obtain ⟨h3, h4⟩ := ltHeap_look h.lth hl
      refine ⟨h3, h2.ok (hs.hs.ok id b h1).2.1, ?_⟩
      cases b' with
      | fix o l => exact fun ρ' ha => ltL_flats ha h4
      | vec => trivial
      | gone => trivial
    sep := fun i b j c hi hj hij ho hlv => by
      obtain ⟨b1, h1, h2⟩ := LeHeap_look h.heap hi
      obtain ⟨c1, h3, h4⟩ := LeHeap_look h.heap hj
      exact hs.hs.sep i b1 j c1 h1 h3 hij (by rw [h2.own]; exact ho) (by rw [h4.live]; exact hlv)
    wr := fun i b x hi ho => by
      obtain ⟨b1, h1, h2⟩ := LeHeap_look h.heap hi
      exact hs.hs.wr i b1 x h1 (by rw [h2.own]; exact ho)
    org := fun i b x hi ho => by
      obtain ⟨b1, h1, h2⟩ := LeHeap_look h.heap hi
      exact hs.hs.org i b1 x h1 (by rw [h2.live]; exact ho)
    frame := hs.hs.frame
    os := hs.hs.os
    tape := hs.hs.tape
    output := hs.hs.output
    size := hs.hs.size
    ag := hs.hs.ag
    inn := hb }
  lt i hi := hi

/-- A LOOP: what holds at its head, by a measure -/
theorem loop_rule {P : Program} {N : Nat} {T : Nat → Option TI} {C : Nat → Option Sem'} {w0 : World} {Wr : Base} (hT : TOK P T) (hC : COK P C) (hm : P.follows .mixedOrders = true) {c : Code} {s : St} {k : Exit → St → Prop}
    {α : Type} (head : α → St) (inv : α → Prop) (μ : α → Nat) (x0 : α) (h0 : inv x0) (hle : LeS s (head x0)) (hb : ∀ x i, Wr.ids i → i < (head x).nid) {un : Md}
    (round : ∀ x, inv x → ∀ (A : Alg) (L : Code → St → (Exit → St → Prop) → Prop) (k' : Exit → St → Prop), A = stdA → (∀ c s k, LoopP P (cx0 N T C) w0 Wr c s k → L c s k) →
      (∀ s' x', inv x' → μ x' < μ x → LeS s' (head x') → k' .normal s') → (∀ id s', k (.exit id) s' → k' (.exit id) s') → (∀ s', k .ret s' → k' .ret s') → run ⟨N, A, T, C, un, L⟩ 1000 c (head x) k') :
    LoopP P (cx0 N T C) w0 Wr c s k := by
  intro ρ n a w hs b kk cs
  have key : ∀ m x a w ρ n, μ x = m → inv x → Sat (cx0 N T C) w0 Wr ρ n (head x) a w →
      ∃ e a' w', Qk (cx0 N T C) w0 Wr k e a' w' ∧ Arrives P (lone (b.at a (.code c :: .inLoop c :: kk)) cs w) b kk cs e a' w' := by
    intro m
    induction m using Nat.strongRecOn with
    | _ m ih =>
      intro x a w ρ n hn hI hsat
      let K1 : Cx := ⟨N, stdA, T, C, un, fun c s k => LoopP P (cx0 N T C) w0 Wr c s k⟩
      have hr := round x hI stdA (fun c s k => LoopP P (cx0 N T C) w0 Wr c s k) (fun e s' => match e with
        | .normal => ∃ x', inv x' ∧ μ x' < μ x ∧ LeS s' (head x')
        | e => k e s') rfl (fun _ _ _ h => h) (fun s' x' h1 h2 h3 => ⟨x', h1, h2, h3⟩) (fun _ _ h => h) (fun _ h => h)
      have hw := run_sound (K := K1) rfl hT hC hm (fun c s k h => LoopP.congr (K := cx0 N T C) (K' := K1) rfl rfl h) 1000 c (head x) _ hr ρ n a w (Sat.congr (K := cx0 N T C) (K' := K1) rfl rfl hsat)
      obtain ⟨e, a₁, w₁, ⟨s', ρ', n', hk, hs'⟩, harr⟩ := hw b (.inLoop c :: kk) cs
      have hs'' := Sat.congr (K := K1) (K' := cx0 N T C) rfl rfl hs'
      cases e with
      | normal =>
        obtain ⟨x', h1, h2, h3⟩ := hk
        obtain ⟨e₂, a₂, w₂, hq₂, harr₂⟩ := ih (μ x') (hn ▸ h2) x' a₁ w₁ ρ' (fun i => i < (head x').nid) rfl h1 (h3.sat (hb x') hs'')
        exact ⟨e₂, a₂, w₂, hq₂, .of_steps (Steps.trans harr (.one step_inLoop)) harr₂⟩
      | exit id => exact ⟨_, a₁, w₁, ⟨s', ρ', n', hk, hs''⟩, .pass (x := .inLoop c) rfl (fun _ _ => .inl (by simp)) harr⟩
      | goto l => exact ⟨_, a₁, w₁, ⟨s', ρ', n', hk, hs''⟩, .pass (x := .inLoop c) rfl (fun _ _ => .inl (by simp)) harr⟩
      | ret => exact ⟨_, a₁, w₁, ⟨s', ρ', n', hk, hs''⟩, .pass (x := .inLoop c) rfl (fun _ _ => .inl (by simp)) harr⟩
      | panic ch => exact ⟨_, a₁, w₁, ⟨s', ρ', n', hk, hs''⟩, .pass (x := .inLoop c) rfl (fun _ _ => .inl (by simp)) harr⟩
      | outgrown => exact ⟨_, a₁, w₁, ⟨s', ρ', n', hk, hs''⟩, .pass (x := .inLoop c) rfl (fun _ _ => .inl (by simp)) harr⟩
  obtain ⟨e, a', w', hq, harr⟩ := key _ x0 a w ρ _ rfl h0 (hle.sat (hb x0) hs)
  exact ⟨e, a', w', hq, .of_steps (.one step_loop) harr⟩

/-! states told by other handles -/
def mapH (f : List (Nat × Sc)) (ρ : Rho) : Rho := fun i => match look f i with
  | some x => x.den ρ
  | none => ρ i

/-- the handle that a head's handle is, in the state -/
def tgt (f : List (Nat × Sc)) (i : Nat) : Option Nat := match look f i with
  | some (.hs j) => some j
  | some (.hp j 0) => some j
  | some _ => none
  | none => some i

def okH (f : List (Nat × Sc)) (B : Nat) : Bool := f.all fun p => decide (B ≤ p.1) && match p.2 with
  | .hs _ => true
  | .hp _ 0 => true
  | .nils => true
  | _ => false

def apartH (f : List (Nat × Sc)) : Heap → Bool
  | [] => true
  | (i, _) :: r => (match tgt f i with
    | some p => r.all fun x => tgt f x.1 != some p
    | none => true) && apartH f r

def LeEnvR (f : List (Nat × Sc)) (env : List (Nat × Ent)) : List (Nat × Ent) → Prop
  | [] => True
  | (t, e') :: r => (match look env t with
    | some e => e.gs = [] ∧ e'.gs = [] ∧ ∀ ρ, e.v.den ρ = e'.v.den (mapH f ρ)
    | none => False) ∧ LeEnvR f env r

def BlkLeR (f : List (Nat × Sc)) : Blk → Blk → Prop
  | .fix o l, .fix o' l' => o = o' ∧ sizes l = sizes l' ∧ ∀ ρ, flats ρ l = flats (mapH f ρ) l'
  | .vec o k l, .vec o' k' l' => o = o' ∧ l.length = l'.length ∧ k.esz = k'.esz ∧ k.flat l = k'.flat l' ∧ (l = [] → l' = [])
  | _, _ => False

def LeHeapR (f : List (Nat × Sc)) (h : Heap) : Heap → Prop
  | [] => True
  | (id, b') :: r => (match tgt f id with
    | some j => match look h j with
      | some b => BlkLeR f b b'
      | none => False
    | none => match b' with
      | .vec _ _ l => l = []
      | _ => False) ∧ LeHeapR f h r

structure LeR (B : Nat) (s s' : St) (f : List (Nat × Sc)) : Prop where
  env : LeEnvR f s.env s'.env
  heap : LeHeapR f s.heap s'.heap
  lte : ltEnv s'.nid s'.env = true
  lth : ltHeap s'.nid s'.heap = true
  ok : okH f B = true
  apart : apartH f s'.heap = true

theorem LeEnvR_mem {f : List (Nat × Sc)} {env : List (Nat × Ent)} {t : Nat} {e' : Ent} : ∀ {env' : List (Nat × Ent)}, LeEnvR f env env' → (t, e') ∈ env' → ∃ e, (t, e) ∈ env ∧ e.gs = [] ∧ e'.gs = [] ∧ ∀ ρ, e.v.den ρ = e'.v.den (mapH f ρ)
  | [], _, h => by simp at h
  | (j, x) :: r, h, hm => by
    simp only [LeEnvR] at h
    simp only [List.mem_cons, Prod.mk.injEq] at hm
    rcases hm with ⟨rfl, rfl⟩ | hm
    · have h1 := h.1
      split at h1
      · rename_i e hl; exact ⟨e, look_mem hl, h1⟩
      · exact h1.elim
    · exact LeEnvR_mem h.2 hm

theorem LeHeapR_look {f : List (Nat × Sc)} {h : Heap} {id : Nat} {b' : Blk} : ∀ {h' : Heap}, LeHeapR f h h' → look h' id = some b' →
    (∃ j b, tgt f id = some j ∧ look h j = some b ∧ BlkLeR f b b') ∨ (tgt f id = none ∧ ∃ o k, b' = .vec o k [])
  | [], _, hl => by simp [look] at hl
  | (j, c) :: r, hh, hl => by
    simp only [LeHeapR] at hh
    simp only [look] at hl
    split at hl
    · rename_i hj
      simp only [beq_iff_eq] at hj
      simp only [Option.some.injEq] at hl
      subst hj hl
      have h1 := hh.1
      split at h1
      · rename_i q hq
        split at h1
        · rename_i b hb; exact .inl ⟨q, b, hq, hb, h1⟩
        · exact h1.elim
      · rename_i hq
        split at h1
        · subst h1; exact .inr ⟨hq, _, _, rfl⟩
        · exact h1.elim
    · exact LeHeapR_look hh.2 hl

theorem BlkLeR.own {f : List (Nat × Sc)} {b b' : Blk} (h : BlkLeR f b b') : b.own = b'.own := by
  cases b <;> cases b' <;> simp only [BlkLeR] at h
  · exact h.1
  · exact h.1

theorem BlkLeR.live {f : List (Nat × Sc)} {b b' : Blk} (h : BlkLeR f b b') : b.live = b'.live := by
  cases b <;> cases b' <;> simp only [BlkLeR] at h <;> rfl

theorem BlkLeR.ok {f : List (Nat × Sc)} {b b' : Blk} (h : BlkLeR f b b') {w : World} {v : Value} {ρ : Rho} (hk : b.ok w v ρ) : b'.ok w v (mapH f ρ) := by
  cases b with
  | fix o l =>
    cases b' with
    | fix o' l' =>
      obtain ⟨rfl, h2, h3⟩ := h
      obtain ⟨b, o', rfl, hb, hr, ht⟩ := hk
      exact ⟨b, o', rfl, hb, by rw [← h3 ρ]; exact hr, fun e => by rw [← h2]; exact ht e⟩
    | vec => exact h.elim
    | gone => exact h.elim
  | gone => exact h.elim
  | vec o k l =>
    cases b' with
    | fix => exact h.elim
    | gone => exact h.elim
    | vec o' k' l' =>
      obtain ⟨rfl, h2, h3, h4, h5⟩ := h
      obtain ⟨base, cap, rfl, hc, hm⟩ := hk
      refine ⟨base, cap, by rw [h2], by omega, ?_⟩
      cases base with
      | none => exact ⟨h5 hm.1, hm.2⟩
      | some a =>
        obtain ⟨b, o', rfl, hb, hr, ht⟩ := hm
        exact ⟨b, o', rfl, hb, by rw [← h4]; exact hr, fun e => by rw [← h3]; exact ht e⟩

theorem apartH_mem {f : List (Nat × Sc)} {i j p : Nat} {b c : Blk} (hij : i ≠ j) (hp : tgt f i = some p) : ∀ {h : Heap}, apartH f h = true → (i, b) ∈ h → (j, c) ∈ h → tgt f j ≠ some p
  | [], _, hi, _ => by simp at hi
  | (q, d) :: r, h, hi, hj => by
    simp only [apartH, Bool.and_eq_true] at h
    simp only [List.mem_cons, Prod.mk.injEq] at hi hj
    rcases hi with ⟨rfl, rfl⟩ | hi
    · rcases hj with ⟨rfl, _⟩ | hj
      · exact absurd rfl hij
      · have h1 := h.1
        rw [hp] at h1
        have := List.all_eq_true.1 h1 _ hj
        simpa using this
    · rcases hj with ⟨rfl, rfl⟩ | hj
      · intro hq
        have h1 := h.1
        rw [hq] at h1
        have := List.all_eq_true.1 h1 _ hi
        simp [hp] at this
      · exact apartH_mem hij hp h.2 hi hj

theorem addOff_zero (v : Value) : addOff v 0 = v := by
  unfold addOff
  split
  · simp [Addr.add]
  · rfl

theorem tgt_den {f : List (Nat × Sc)} {B i j : Nat} (hok : okH f B = true) (h : tgt f i = some j) (ρ : Rho) : mapH f ρ i = ρ j := by
  unfold tgt at h
  unfold mapH
  split at h
  · rename_i q hq; rw [hq]; simp only [Option.some.injEq] at h; subst h; rfl
  · rename_i q hq; rw [hq]; simp only [Option.some.injEq] at h; subst h; exact addOff_zero _
  · cases h
  · rename_i hq; rw [hq]; simp only [Option.some.injEq] at h; subst h; rfl

theorem tgt_nil {f : List (Nat × Sc)} {B i : Nat} (hok : okH f B = true) (h : tgt f i = none) (ρ : Rho) : mapH f ρ i = .slice none 0 0 := by
  unfold tgt at h
  split at h <;> try cases h
  rename_i y hy1 hy2 hq
  have := List.all_eq_true.1 hok _ (look_mem hq)
  simp only [Bool.and_eq_true] at this
  have h2 := this.2
  split at h2
  · rename_i j; exact absurd rfl (hy1 j)
  · rename_i j; exact absurd rfl (hy2 j)
  · unfold mapH; rw [hq]; rfl
  · cases h2

theorem LeR.sat {K : Cx} {B : Nat} {s s' : St} {f : List (Nat × Sc)} (h : LeR B s s' f) {w0 : World} {Wr : Base} (hB : ∀ i, Wr.ids i → i < B) (hb : B ≤ s'.nid) {ρ : Rho} {n : Ids} {a : Act} {w : World} (hs : Sat K w0 Wr ρ n s a w) :
    Sat K w0 Wr (mapH f ρ) (fun i => i < s'.nid) s' a w where
  size := hs.size
  defers := hs.defers
  env t e' he := by
    obtain ⟨e, h1, h2, h3, h4⟩ := LeEnvR_mem h.env he
    have h5 := hs.env t e h1
    rw [h2] at h5
    rw [h3]
    refine ⟨fun _ => ⟨by rw [← h4]; exact (h5.1 rfl).1, fun ρ' ha => XV.lt_den (ltEnv_mem h.lte he) ha⟩, fun hf => by simp [gBool] at hf⟩
  hs := {
    one := fun i => by
      cases ht : tgt f i with
      | some j => rw [tgt_den h.ok ht]; exact hs.hs.one j
      | none => rw [tgt_nil h.ok ht]; rfl
    ok := fun id b' hl => by
      obtain ⟨h3, h4⟩ := ltHeap_look h.lth hl
      refine ⟨h3, ?_, ?_⟩
      · rcases LeHeapR_look h.heap hl with ⟨j, b, ht, h1, h2⟩ | ⟨ht, o, k, rfl⟩
        · rw [tgt_den h.ok ht]
          exact h2.ok (hs.hs.ok j b h1).2.1
        · rw [tgt_nil h.ok ht]
          exact ⟨none, 0, rfl, Nat.le_refl _, rfl, rfl⟩
      · cases b' with
        | fix o l => exact fun ρ' ha => ltL_flats ha h4
        | vec => trivial
        | gone => trivial
    sep := fun i b j c hi hj hij ho hlv x hx => by
      rcases LeHeapR_look h.heap hi with ⟨p, b1, ht, h1, h2⟩ | ⟨ht, o, k, rfl⟩
      · rcases LeHeapR_look h.heap hj with ⟨q, c1, ht2, h3, h4⟩ | ⟨ht2, o, k, rfl⟩
        · rw [tgt_den h.ok ht] at hx
          rw [tgt_den h.ok ht2]
          refine hs.hs.sep p b1 q c1 h1 h3 (fun e => ?_) (by rw [h2.own]; exact ho) (by rw [h4.live]; exact hlv) x hx
          subst e
          exact apartH_mem hij ht h.apart (look_mem hi) (look_mem hj) ht2
        · rw [tgt_nil h.ok ht2]
          intro hh; cases hh
      · rw [tgt_nil h.ok ht] at hx; cases hx
    wr := fun i b x hi ho hx => by
      rcases LeHeapR_look h.heap hi with ⟨p, b1, ht, h1, h2⟩ | ⟨ht, o, k, rfl⟩
      · rw [tgt_den h.ok ht] at hx
        exact hs.hs.wr p b1 x h1 (by rw [h2.own]; exact ho) hx
      · rw [tgt_nil h.ok ht] at hx; cases hx
    org := fun i b x hi ho hx => by
      rcases LeHeapR_look h.heap hi with ⟨p, b1, ht, h1, h2⟩ | ⟨ht, o, k, rfl⟩
      · rw [tgt_den h.ok ht] at hx
        exact hs.hs.org p b1 x h1 (by rw [h2.live]; exact ho) hx
      · rw [tgt_nil h.ok ht] at hx; cases hx
    frame := hs.hs.frame
    os := hs.hs.os
    tape := hs.hs.tape
    output := hs.hs.output
    size := hs.hs.size
    ag := fun i hi => by
      have hn : look f i = none := by
        cases hq : look f i with
        | none => rfl
        | some y =>
          have := List.all_eq_true.1 h.ok _ (look_mem hq)
          simp only [Bool.and_eq_true, decide_eq_true_eq] at this
          have := hB i hi
          omega
      have e : mapH f ρ i = ρ i := by unfold mapH; rw [hn]
      rw [e]
      exact hs.hs.ag i hi
    inn := fun i hi => by have := hB i hi; show i < s'.nid; omega }
  lt i hi := hi

/-- A LOOP whose handles change: each round's state is told by the head's handles -/
theorem loop_ruleR {P : Program} {N : Nat} {T : Nat → Option TI} {C : Nat → Option Sem'} {w0 : World} {Wr : Base} (hT : TOK P T) (hC : COK P C) (hm : P.follows .mixedOrders = true) {c : Code} {s : St} {k : Exit → St → Prop} (B : Nat) (hB : ∀ i, Wr.ids i → i < B)
    {α : Type} (head : α → St) (inv : α → Prop) (μ : α → Nat) (x0 : α) (h0 : inv x0) (f0 : List (Nat × Sc)) (hle : LeR B s (head x0) f0) (hb : ∀ x, B ≤ (head x).nid) {un : Md}
    (round : ∀ x, inv x → ∀ (A : Alg) (L : Code → St → (Exit → St → Prop) → Prop) (k' : Exit → St → Prop), A = stdA → (∀ c s k, LoopP P (cx0 N T C) w0 Wr c s k → L c s k) →
      (∀ s' x' f, inv x' → μ x' < μ x → LeR B s' (head x') f → k' .normal s') → (∀ id s', k (.exit id) s' → k' (.exit id) s') → (∀ s', k .ret s' → k' .ret s') → run ⟨N, A, T, C, un, L⟩ 1000 c (head x) k') :
    LoopP P (cx0 N T C) w0 Wr c s k := by
  intro ρ n a w hs b kk cs
  have key : ∀ m x a w ρ n, μ x = m → inv x → Sat (cx0 N T C) w0 Wr ρ n (head x) a w →
      ∃ e a' w', Qk (cx0 N T C) w0 Wr k e a' w' ∧ Arrives P (lone (b.at a (.code c :: .inLoop c :: kk)) cs w) b kk cs e a' w' := by
    intro m
    induction m using Nat.strongRecOn with
    | _ m ih =>
      intro x a w ρ n hn hI hsat
      let K1 : Cx := ⟨N, stdA, T, C, un, fun c s k => LoopP P (cx0 N T C) w0 Wr c s k⟩
      have hr := round x hI stdA (fun c s k => LoopP P (cx0 N T C) w0 Wr c s k) (fun e s' => match e with
        | .normal => ∃ x' f, inv x' ∧ μ x' < μ x ∧ LeR B s' (head x') f
        | e => k e s') rfl (fun _ _ _ h => h) (fun s' x' f h1 h2 h3 => ⟨x', f, h1, h2, h3⟩) (fun _ _ h => h) (fun _ h => h)
      have hw := run_sound (K := K1) rfl hT hC hm (fun c s k h => LoopP.congr (K := cx0 N T C) (K' := K1) rfl rfl h) 1000 c (head x) _ hr ρ n a w (Sat.congr (K := cx0 N T C) (K' := K1) rfl rfl hsat)
      obtain ⟨e, a₁, w₁, ⟨s', ρ', n', hk, hs'⟩, harr⟩ := hw b (.inLoop c :: kk) cs
      have hs'' := Sat.congr (K := K1) (K' := cx0 N T C) rfl rfl hs'
      cases e with
      | normal =>
        obtain ⟨x', f, h1, h2, h3⟩ := hk
        obtain ⟨e₂, a₂, w₂, hq₂, harr₂⟩ := ih (μ x') (hn ▸ h2) x' a₁ w₁ (mapH f ρ') (fun i => i < (head x').nid) rfl h1 (h3.sat hB (hb x') hs'')
        exact ⟨e₂, a₂, w₂, hq₂, .of_steps (Steps.trans harr (.one step_inLoop)) harr₂⟩
      | exit id => exact ⟨_, a₁, w₁, ⟨s', ρ', n', hk, hs''⟩, .pass (x := .inLoop c) rfl (fun _ _ => .inl (by simp)) harr⟩
      | goto l => exact ⟨_, a₁, w₁, ⟨s', ρ', n', hk, hs''⟩, .pass (x := .inLoop c) rfl (fun _ _ => .inl (by simp)) harr⟩
      | ret => exact ⟨_, a₁, w₁, ⟨s', ρ', n', hk, hs''⟩, .pass (x := .inLoop c) rfl (fun _ _ => .inl (by simp)) harr⟩
      | panic ch => exact ⟨_, a₁, w₁, ⟨s', ρ', n', hk, hs''⟩, .pass (x := .inLoop c) rfl (fun _ _ => .inl (by simp)) harr⟩
      | outgrown => exact ⟨_, a₁, w₁, ⟨s', ρ', n', hk, hs''⟩, .pass (x := .inLoop c) rfl (fun _ _ => .inl (by simp)) harr⟩
  obtain ⟨e, a', w', hq, harr⟩ := key _ x0 a w (mapH f0 ρ) _ rfl h0 (hle.sat hB (hb x0) hs)
  exact ⟨e, a', w', hq, .of_steps (.one step_loop) harr⟩

end Go.Eng
