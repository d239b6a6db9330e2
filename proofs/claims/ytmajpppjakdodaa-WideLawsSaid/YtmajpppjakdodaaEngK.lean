/- The engine, part K: regions that draw their order. -/
import Derived.Test.YtmajpppjakdodaaEngJ
set_option linter.all false
set_option exponentiation.threshold 3000
namespace Go.Eng

theorem look_addH : ∀ (l : List Blk) (h : Heap) (m id : Nat), look (addH h m l) id = if m ≤ id ∧ id < m + l.length then l[id - m]? else look h id
  | [], h, m, id => by
    simp only [addH, List.length_nil, Nat.add_zero]
    rw [if_neg (by omega)]
  | b :: r, h, m, id => by
    simp only [addH, look, List.length_cons]
    by_cases he : m = id
    · subst he
      simp
    · rw [if_neg (by simpa using he), look_addH r h (m + 1) id]
      by_cases h1 : m + 1 ≤ id ∧ id < m + 1 + r.length
      · rw [if_pos h1, if_pos (by omega), show id - m = (id - (m + 1)) + 1 from by omega, List.getElem?_cons_succ]
      · rw [if_neg h1, if_neg (by omega)]

theorem get_lt {α : Type} {F : List α} {g : α} {m : Nat} (h : F[m]? = some g) : m < F.length := by
  rcases Nat.lt_or_ge m F.length with hlt | hge
  · exact hlt
  · rw [List.getElem?_eq_none hge] at h; simp at h

theorem look_of_mem {α : Type} : ∀ {l : List (Nat × α)} {i : Nat} {b : α}, (l.map (·.1)).Nodup → (i, b) ∈ l → ∃ c, look l i = some c
  | [], _, _, _, h => by simp at h
  | (j, c) :: r, i, b, hn, h => by
    simp only [look]
    split
    · exact ⟨c, rfl⟩
    · rename_i hj
      simp only [List.mem_cons, Prod.mk.injEq] at h
      rcases h with ⟨rfl, _⟩ | h
      · simp at hj
      · exact look_of_mem (by simp only [List.map_cons, List.nodup_cons] at hn; exact hn.2) h

/-- the facts' handles follow one another -/
def OrdF : List Fact → Nat → Nat → Prop
  | [], lo, hi => lo = hi
  | f :: r, lo, hi => f.id = lo ∧ OrdF r (lo + f.new.length) hi

theorem OrdF.le : ∀ {F : List Fact} {lo hi : Nat}, OrdF F lo hi → lo ≤ hi
  | [], _, _, h => by simp only [OrdF] at h; omega
  | f :: r, lo, hi, h => by have := OrdF.le h.2; omega

theorem OrdF.push : ∀ {F : List Fact} {lo hi : Nat} {f : Fact}, OrdF F lo hi → f.id = hi → OrdF (F ++ [f]) lo (hi + f.new.length)
  | [], lo, hi, f, h, hf => by simp only [OrdF] at h; subst h; exact ⟨hf, by simp [OrdF]⟩
  | g :: r, lo, hi, f, h, hf => ⟨h.1, OrdF.push h.2 hf⟩

theorem OrdF.get : ∀ {F : List Fact} {lo hi : Nat}, OrdF F lo hi → ∀ {m : Nat} {f : Fact}, F[m]? = some f → lo ≤ f.id ∧ f.id + f.new.length ≤ hi
  | [], _, _, _, m, f, h => by simp at h
  | g :: r, lo, hi, h, m, f, hf => by
    cases m with
    | zero =>
      simp only [List.getElem?_cons_zero, Option.some.injEq] at hf
      subst hf
      have := OrdF.le h.2
      exact ⟨by have := h.1; omega, by have := h.1; omega⟩
    | succ m =>
      obtain ⟨h1, h2⟩ := OrdF.get h.2 (by simpa using hf)
      exact ⟨by omega, h2⟩

/-- different facts have different handles -/
theorem OrdF.apart : ∀ {F : List Fact} {lo hi : Nat}, OrdF F lo hi → ∀ {m k : Nat} {f g : Fact}, F[m]? = some f → F[k]? = some g → m < k → f.id + f.new.length ≤ g.id
  | [], _, _, _, m, k, f, g, h, _, _ => by simp at h
  | x :: r, lo, hi, h, m, k, f, g, hf, hg, hlt => by
    cases k with
    | zero => omega
    | succ k =>
      cases m with
      | zero =>
        simp only [List.getElem?_cons_zero, Option.some.injEq] at hf
        subst hf
        have := (OrdF.get h.2 (show r[k]? = some g by simpa using hg)).1
        have := h.1
        omega
      | succ m => exact OrdF.apart h.2 (by simpa using hf) (by simpa using hg) (by omega)

theorem look_allH : ∀ (l h : Heap) (i : Nat), (l.map (·.1)).Nodup → look (allH h l) i = match look l i with
    | some b => (look h i).map fun _ => b
    | none => look h i
  | [], h, i, _ => rfl
  | (j, b) :: r, h, i, hn => by
    simp only [List.map_cons, List.nodup_cons] at hn
    simp only [allH, look]
    rw [look_allH r (setH h j b) i hn.2]
    by_cases hij : j = i
    · subst hij
      have : look r j = none := by
        cases hq : look r j with
        | none => rfl
        | some c => exact absurd (List.mem_map.2 ⟨_, look_mem hq, rfl⟩) hn.1
      simp only [beq_self_eq_true, if_true, this, look_setH]
    · have hne : (j == i) = false := by simpa using hij
      simp only [hne, Bool.false_eq_true, if_false, look_setH, if_neg (fun e => hij (Eq.symm e))]

theorem look_keepH (l : List Nat) : ∀ (h : Heap) (i : Nat) (b : Blk), look (keepH l h) i = some b ↔ i ∈ l ∧ look h i = some b
  | [], i, b => by simp [keepH, look]
  | (j, c) :: r, i, b => by
    simp only [keepH, look]
    split
    · rename_i hc
      simp only [look]
      by_cases hj : j = i
      · subst hj
        simp only [beq_self_eq_true, if_true]
        exact ⟨fun h => ⟨by simpa using hc, h⟩, fun h => h.2⟩
      · have : (j == i) = false := by simpa using hj
        simp only [this, Bool.false_eq_true, if_false]
        exact look_keepH l r i b
    · rename_i hc
      rw [look_keepH l r i b]
      by_cases hj : j = i
      · subst hj
        simp only [beq_self_eq_true, if_true]
        have : j ∉ l := by simpa using hc
        exact ⟨fun h => absurd h.1 this, fun h => absurd h.1 this⟩
      · have : (j == i) = false := by simpa using hj
        simp only [this, Bool.false_eq_true, if_false]

/-- what a fact does to the block of one handle -/
def eff (f : Fact) (id : Nat) (x : Option Blk) : Option Blk :=
  if f.id ≤ id ∧ id < f.id + f.new.length then f.new[id - f.id]? else match look f.wr id with
    | some b => x.map fun _ => b
    | none => x

def foldE : List Fact → Nat → (Nat → Bool) → Nat → Option Blk → Option Blk
  | [], _, _, _, x => x
  | f :: r, j, c, id, x => foldE r (j + 1) c id (match c j with
    | true => eff f id x
    | false => x)

theorem look_hsub : ∀ {F : List Fact}, (∀ (m : Nat) (f : Fact), F[m]? = some f → (f.wr.map (·.1)).Nodup) → ∀ (h : Heap) (j : Nat) (c : Nat → Bool) (id : Nat), look (hsub h F j c) id = foldE F j c id (look h id)
  | [], _, h, j, c, id => rfl
  | f :: r, hn, h, j, c, id => by
    simp only [hsub, foldE]
    rw [look_hsub (F := r) (fun m g hg => hn (m + 1) g (by simpa using hg))]
    congr 1
    cases hc : c j with
    | false => rfl
    | true =>
      show look (addH (allH h f.wr) f.id f.new) id = eff f id (look h id)
      rw [look_addH, look_allH _ _ _ (hn 0 f (by simp))]
      rfl

/-- a fact that does nothing to a handle -/
def Quiet (f : Fact) (id : Nat) : Prop := ¬ (f.id ≤ id ∧ id < f.id + f.new.length) ∧ look f.wr id = none

theorem Quiet.eff {f : Fact} {id : Nat} (h : Quiet f id) (x : Option Blk) : eff f id x = x := by
  unfold Go.Eng.eff
  rw [if_neg h.1, h.2]

theorem foldE_same {id : Nat} : ∀ {F : List Fact} {j : Nat} {c d : Nat → Bool}, (∀ (m : Nat) (f : Fact), F[m]? = some f → Quiet f id ∨ c (j + m) = d (j + m)) → ∀ x, foldE F j c id x = foldE F j d id x
  | [], _, _, _, _, _ => rfl
  | f :: r, j, c, d, h, x => by
    simp only [foldE]
    rw [foldE_same (F := r) (j := j + 1) (c := c) (d := d) fun m g hg => by
      have := h (m + 1) g (by simpa using hg)
      rw [show j + (m + 1) = j + 1 + m from by omega] at this; exact this]
    congr 1
    rcases h 0 f (by simp) with hq | he
    · cases c j <;> cases d j <;> simp [hq.eff]
    · rw [Nat.add_zero] at he; rw [he]

theorem foldE_none {id : Nat} {F : List Fact} {j : Nat} {c : Nat → Bool} (h : ∀ (m : Nat) (f : Fact), F[m]? = some f → c (j + m) = true → Quiet f id) (x : Option Blk) : foldE F j c id x = x := by
  rw [foldE_same (d := fun _ => false) fun m f hf => by
    cases hc : c (j + m) with
    | true => exact .inl (h m f hf hc)
    | false => exact .inr rfl]
  clear h
  induction F generalizing j with
  | nil => rfl
  | cons f r ih => simp only [foldE]; exact ih

/-- E, and j -/
def add1 (E : Nat → Bool) (j : Nat) : Nat → Bool := fun i => i == j || E i

theorem add1_old {E : Nat → Bool} {j i : Nat} (h : E i = true) : add1 E j i = true := by simp [add1, h]
theorem add1_new {E : Nat → Bool} {j : Nat} : add1 E j j = true := by simp [add1]
theorem add1_cases {E : Nat → Bool} {j i : Nat} (h : add1 E j i = true) : i = j ∨ E i = true := by simpa [add1] using h
theorem add1_ne {E : Nat → Bool} {j i : Nat} (h : i ≠ j) : add1 E j i = E i := by simp [add1, h]

theorem foldE_add {id : Nat} {f : Fact} : ∀ {F : List Fact} {m k : Nat} {c : Nat → Bool}, F[m]? = some f → c (k + m) = false → (∀ (m' : Nat) (g : Fact), m < m' → F[m']? = some g → c (k + m') = true → Quiet g id) →
    ∀ x, foldE F k (add1 c (k + m)) id x = eff f id (foldE F k c id x)
  | [], m, _, _, h, _, _, _ => by simp at h
  | g :: r, 0, k, c, h, hc, hq, x => by
    simp only [List.getElem?_cons_zero, Option.some.injEq] at h
    subst h
    simp only [Nat.add_zero] at hc
    simp only [foldE, Nat.add_zero, add1_new, hc]
    rw [foldE_none fun m g hg ha => ?_, foldE_none fun m g hg ha => ?_]
    · exact hq (m + 1) g (by omega) (by simpa using hg) (by rw [show k + (m + 1) = k + 1 + m from by omega]; exact ha)
    · rw [add1_ne (by omega)] at ha
      exact hq (m + 1) g (by omega) (by simpa using hg) (by rw [show k + (m + 1) = k + 1 + m from by omega]; exact ha)
  | g :: r, m + 1, k, c, h, hc, hq, x => by
    simp only [foldE]
    rw [show add1 c (k + (m + 1)) k = c k from add1_ne (by omega), show k + (m + 1) = k + 1 + m from by omega]
    exact foldE_add (F := r) (by simpa using h) (by rw [← hc]; congr 1; omega) (fun m' g' h1 h2 h3 => hq (m' + 1) g' (by omega) (by simpa using h2) (by rw [← h3]; congr 1; omega)) _

theorem foldE_from {id : Nat} : ∀ {F : List Fact} {j : Nat} {c : Nat → Bool} {x : Option Blk} {b : Blk}, foldE F j c id x = some b → (∃ b', x = some b') ∨ ∃ m f, F[m]? = some f ∧ c (j + m) = true ∧ f.id ≤ id ∧ id < f.id + f.new.length
  | [], _, _, x, b, h => .inl ⟨b, h⟩
  | f :: r, j, c, x, b, h => by
    simp only [foldE] at h
    rcases foldE_from h with ⟨b', hb⟩ | ⟨m, g, h1, h2, h3⟩
    · cases hc : c j with
      | false => rw [hc] at hb; exact .inl ⟨b', hb⟩
      | true =>
        rw [hc] at hb
        simp only [eff] at hb
        split at hb
        · rename_i hr
          exact .inr ⟨0, f, by simp, by rw [Nat.add_zero]; exact hc, hr⟩
        · split at hb
          · cases x with
            | none => simp at hb
            | some y => exact .inl ⟨y, rfl⟩
          · exact .inl ⟨b', hb⟩
    · exact .inr ⟨m + 1, g, by simpa using h1, by rw [← h2]; congr 1; omega, h3⟩

theorem foldE_prop {id : Nat} {P : Blk → Prop} : ∀ {F : List Fact} {j : Nat} {c : Nat → Bool} {x : Option Blk} {b : Blk}, foldE F j c id x = some b → (∀ b', x = some b' → P b') →
    (∀ (m : Nat) (f : Fact) (q : Nat) (b' : Blk), F[m]? = some f → c (j + m) = true → f.new[q]? = some b' → f.id + q = id → P b') → (∀ (m : Nat) (f : Fact) (b' : Blk), F[m]? = some f → c (j + m) = true → look f.wr id = some b' → P b') → P b
  | [], _, _, x, b, h, h0, _, _ => h0 b h
  | f :: r, j, c, x, b, h, h0, h1, h2 => by
    simp only [foldE] at h
    refine foldE_prop h (fun b' hb => ?_) (fun m g q b' hg hc => h1 (m + 1) g q b' (by simpa using hg) (by rw [← hc]; congr 1; omega)) (fun m g b' hg hc => h2 (m + 1) g b' (by simpa using hg) (by rw [← hc]; congr 1; omega))
    cases hc : c j with
    | false => rw [hc] at hb; exact h0 b' hb
    | true =>
      rw [hc] at hb
      simp only [eff] at hb
      split at hb
      · rename_i hr
        exact h1 0 f _ b' (by simp) (by rw [Nat.add_zero]; exact hc) hb (by omega)
      · split at hb
        · rename_i y hy
          cases x with
          | none => simp at hb
          | some z =>
            simp only [Option.map_some, Option.some.injEq] at hb
            subst hb
            exact h2 0 f y (by simp) (by rw [Nat.add_zero]; exact hc) hy
        · exact h0 b' hb

/-- bits speak of earlier operations -/
def BitsOK (F : List Fact) : Prop := ∀ (m : Nat) (f : Fact), F[m]? = some f → ∀ i, f.cl.testBit i = true → i < m

/-- the facts fit one another -/
structure FOK (heap : Heap) (F : List Fact) (lo hi : Nat) : Prop where
  ord : OrdF F lo hi
  bits : BitsOK F
  hb : ∀ id b, look heap id = some b → id < lo
  nd : ∀ (m : Nat) (f : Fact), F[m]? = some f → (f.wr.map (·.1)).Nodup
  wt : ∀ (m : Nat) (f : Fact) (i : Nat) (b : Blk), F[m]? = some f → look f.wr i = some b → i ∈ f.tch
  cmp : ∀ (m k : Nat) (f g : Fact), F[m]? = some f → F[k]? = some g → m < k → g.cl.testBit m = true ∨ (∀ i b, look f.wr i = some b → i ∉ g.tch) ∧ (∀ i b, look g.wr i = some b → i ∉ f.tch)
  prs : ∀ (k : Nat) (g : Fact) (i : Nat) (b : Blk), F[k]? = some g → look g.wr i = some b → ∃ c, look (hsub heap F 0 g.cl.testBit) i = some c ∧ c.own = true

theorem FOK.from {heap : Heap} {F : List Fact} {lo hi : Nat} (hK : FOK heap F lo hi) {c : Nat → Bool} {id : Nat} {b : Blk} (h : look (hsub heap F 0 c) id = some b) :
    id < lo ∨ ∃ m f, F[m]? = some f ∧ c m = true ∧ f.id ≤ id ∧ id < f.id + f.new.length := by
  rw [look_hsub hK.nd] at h
  rcases foldE_from h with ⟨b', hb⟩ | ⟨m, f, h1, h2, h3⟩
  · exact .inl (hK.hb id b' hb)
  · exact .inr ⟨m, f, h1, by simpa using h2, h3⟩

theorem FOK.apart {heap : Heap} {F : List Fact} {lo hi : Nat} (hK : FOK heap F lo hi) {m k : Nat} {f g : Fact} (hf : F[m]? = some f) (hg : F[k]? = some g) (hne : m ≠ k) {id : Nat} (h : f.id ≤ id ∧ id < f.id + f.new.length) : ¬ (g.id ≤ id ∧ id < g.id + g.new.length) := by
  rcases Nat.lt_or_ge m k with hlt | hge
  · have := OrdF.apart hK.ord hf hg hlt; omega
  · have := OrdF.apart hK.ord hg hf (by omega); omega

/-- what an operation sees is what stands there -/
theorem FOK.sees {heap : Heap} {F : List Fact} {lo hi : Nat} (hK : FOK heap F lo hi) {E : Nat → Bool} {j : Nat} {f : Fact} (hf : F[j]? = some f) (hE : E j = false)
    (hcl : ∀ i, f.cl.testBit i = true → E i = true) (hEc : ∀ (m : Nat) (f : Fact), F[m]? = some f → E m = true → ∀ i, f.cl.testBit i = true → E i = true) {id : Nat} {b : Blk}
    (h : look (keepH f.tch (hsub heap F 0 f.cl.testBit)) id = some b) : look (hsub heap F 0 E) id = some b := by
  rw [look_keepH] at h
  obtain ⟨ht, h⟩ := h
  have hfrom := hK.from h
  rw [look_hsub hK.nd] at h ⊢
  rw [← h]
  refine foldE_same (fun m g hg => ?_) _
  rw [Nat.zero_add]
  cases hm : E m with
  | false =>
    right
    cases hc : f.cl.testBit m with
    | false => rfl
    | true => rw [hcl m hc] at hm; cases hm
  | true =>
    cases hc : f.cl.testBit m with
    | true => exact .inr rfl
    | false =>
      left
      have hne : m ≠ j := fun e => by rw [e, hE] at hm; cases hm
      refine ⟨fun hr => ?_, ?_⟩
      · rcases hfrom with hlo | ⟨m', f', h1, h2, h3⟩
        · have := (OrdF.get hK.ord hg).1; omega
        · exact hK.apart h1 hg (fun e => by rw [e, hc] at h2; cases h2) h3 hr
      · cases hw : look g.wr id with
        | none => rfl
        | some c =>
          exfalso
          rcases Nat.lt_or_ge m j with hlt | hge
          · rcases hK.cmp m j g f hg hf hlt with h1 | ⟨h1, _⟩
            · rw [hc] at h1; cases h1
            · exact h1 id c hw ht
          · rcases hK.cmp j m f g hf hg (by omega) with h1 | ⟨_, h1⟩
            · rw [hEc m g hg hm j h1] at hE; cases hE
            · exact h1 id c hw ht

/-- one more -/
theorem FOK.more {heap : Heap} {F : List Fact} {lo hi : Nat} (hK : FOK heap F lo hi) {E : Nat → Bool} {j : Nat} {f : Fact} (hf : F[j]? = some f) (hE : E j = false)
    (hEc : ∀ (m : Nat) (f : Fact), F[m]? = some f → E m = true → ∀ i, f.cl.testBit i = true → E i = true) (id : Nat) :
    look (hsub heap F 0 (add1 E j)) id = eff f id (look (hsub heap F 0 E) id) := by
  rw [look_hsub hK.nd, look_hsub hK.nd]
  have hj0 : add1 E j = add1 E (0 + j) := by rw [Nat.zero_add]
  rw [hj0]
  refine Classical.byCases (p := Quiet f id) (fun hq => ?_) (fun hq => foldE_add hf (by rw [Nat.zero_add]; exact hE) (fun m g hlt hg hm => ?_) _)
  · rw [hq.eff]
    refine foldE_same (fun m g hg => ?_) _
    simp only [Nat.zero_add]
    by_cases hm : m = j
    · subst hm; rw [hf] at hg; simp only [Option.some.injEq] at hg; subst hg; exact .inl hq
    · exact .inr (add1_ne hm)
  · rw [Nat.zero_add] at hm
    have hjm : g.cl.testBit j = false := by
      cases hc : g.cl.testBit j with
      | false => rfl
      | true => rw [hEc m g hg hm j hc] at hE; cases hE
    have hcmp := hK.cmp j m f g hf hg hlt
    rw [hjm] at hcmp
    simp only [Bool.false_eq_true, false_or] at hcmp
    by_cases hr : f.id ≤ id ∧ id < f.id + f.new.length
    · refine ⟨hK.apart hf hg (by omega) hr, ?_⟩
      cases hw : look g.wr id with
      | none => rfl
      | some c =>
        exfalso
        obtain ⟨c', hc', _⟩ := hK.prs m g id c hg hw
        rcases hK.from hc' with h1 | ⟨m', f', h1, h2, h3⟩
        · have := (OrdF.get hK.ord hf).1; omega
        · exact hK.apart h1 hf (fun e => by rw [e, hjm] at h2; cases h2) h3 hr
    · cases hw : look f.wr id with
      | none => exact absurd ⟨hr, hw⟩ hq
      | some c =>
        refine ⟨fun hrg => ?_, ?_⟩
        · obtain ⟨c', hc', _⟩ := hK.prs j f id c hf hw
          rcases hK.from hc' with h1 | ⟨m', f', h1, h2, h3⟩
          · have := (OrdF.get hK.ord hg).1; omega
          · have := hK.bits j f hf m' h2
            exact hK.apart h1 hg (by omega) h3 hrg
        · cases hwg : look g.wr id with
          | none => rfl
          | some d => exact absurd (hK.wt j f id c hf hw) (hcmp.2 id d hwg)

/-- the handles of before, and those of the facts that c tells -/
def idsOf (n0 : Ids) (F : List Fact) (c : Nat → Bool) : Ids := fun i => n0 i ∨ ∃ m f, F[m]? = some f ∧ c m = true ∧ f.id ≤ i ∧ i < f.id + f.new.length

theorem idsOf_mono {n0 : Ids} {F : List Fact} {c d : Nat → Bool} (h : ∀ m, c m = true → d m = true) {i : Nat} (hi : idsOf n0 F c i) : idsOf n0 F d i := by
  rcases hi with hi | ⟨m, f, h1, h2, h3⟩
  · exact .inl hi
  · exact .inr ⟨m, f, h1, h _ h2, h3⟩

/-- itself and what must stand before it -/
def cl1 (f : Fact) (m : Nat) : Nat → Bool := fun i => i == m || f.cl.testBit i

section
variable {P : Program} {K : Cx} {w0 : World} {Wr : Base}

/-- what is known while the front's operations that E tells have run -/
structure FInv (K : Cx) (w0 : World) (Wr : Base) (n0 : Ids) (heap : Heap) (envB envF : List (Nat × Ent)) (F : List Fact) (ρ : Rho) (E : Nat → Bool) (a : Act) (w : World) : Prop where
  size : a.tmps.size = K.N
  defers : a.defers = []
  base : ∀ t e, (t, e) ∈ envB → (∀ (m : Nat) (g : Fact), F[m]? = some g → g.dst = some t → E m = false) → a.tmps[t]? = some (e.v.den ρ) ∧ StbX n0 ρ e.v
  fact : ∀ m f t e, F[m]? = some f → E m = true → f.dst = some t → (t, e) ∈ envF → (gBool K envF e.gs = true → a.tmps[t]? = some (e.v.den ρ) ∧ StbX (idsOf n0 F (cl1 f m)) ρ e.v) ∧ (gBool K envF e.gs = false → a.tmps[t]? = some undef)
  hs : HS w0 Wr ρ (hsub heap F 0 E) (idsOf n0 F E) w
  bstb : ∀ (m : Nat) (f : Fact) (q : Nat) (b : Blk), F[m]? = some f → E m = true → f.new[q]? = some b → b.stb (idsOf n0 F (cl1 f m)) ρ
  wstb : ∀ (m : Nat) (f : Fact) (i : Nat) (b : Blk), F[m]? = some f → E m = true → look f.wr i = some b → b.stb (idsOf n0 F (cl1 f m)) ρ
  hb : ∀ (id : Nat) (b : Blk), look heap id = some b → n0 id ∧ b.stb n0 ρ
  cl : ∀ (m : Nat) (f : Fact), F[m]? = some f → E m = true → ∀ i, f.cl.testBit i = true → E i = true
  inn : ∀ i, Wr.ids i → n0 i

/-- what is known of one operation of the front, whatever has run -/
structure OpD (K : Cx) (full : List Oper) (heap : Heap) (envB envF : List (Nat × Ent)) (F : List Fact) (j : Nat) (o : Oper) (f : Fact) (envj : List (Nat × Ent)) (ent : Ent) : Prop where
  sub : ∀ t e, (t, e) ∈ envj → ((t, e) ∈ envB ∧ ∀ (m : Nat) (g : Fact), F[m]? = some g → g.dst = some t → m = j ∨ g.cl.testBit j = true) ∨
    ((t, e) ∈ envF ∧ (∃ m g, F[m]? = some g ∧ g.dst = some t ∧ f.cl.testBit m = true) ∧ gBool K envj e.gs = gBool K envF e.gs)
  dst : f.dst = o.dst
  entry : ∀ t, o.dst = some t → t < K.N ∧ (t, ent) ∈ envF ∧ (∀ e, (t, e) ∈ envF → e = ent) ∧ gBool K envj ent.gs = gBool K envF ent.gs
  bits : ∀ i, f.cl.testBit i = true → i < j
  trans : ∀ m g, F[m]? = some g → f.cl.testBit m = true → ∀ i, g.cl.testBit i = true → f.cl.testBit i = true
  run : match guardOf full ⟨envj, keepH f.tch (hsub heap F 0 f.cl.testBit), f.id⟩ o with
    | .bad => False
    | .off => f.new = [] ∧ f.wr = [] ∧ ent = ⟨[], .c (.s .un)⟩
    | .on => ∃ r, evOp K ⟨envj, keepH f.tch (hsub heap F 0 f.cl.testBit), f.id⟩ [] o.op = some r ∧ (∀ b, b ∈ r.ob → b = true) ∧ f.wr = r.wr ∧ f.new = r.new ∧ ent = ⟨[], r.val⟩
    | .sym gs => ∃ r, evOp K ⟨envj, keepH f.tch (hsub heap F 0 f.cl.testBit), f.id⟩ gs o.op = some r ∧ (gBool K envj gs = true → ∀ b, b ∈ r.ob → b = true) ∧ r.wr = [] ∧ r.new = [] ∧ f.wr = [] ∧ f.new = [] ∧ ent = ⟨gs, r.val⟩ ∧ o.dst ≠ none

/-- a part of what is known -/
theorem HS.part {ρ : Rho} {h h' : Heap} {n n' : Ids} {w : World} (hs : HS w0 Wr ρ h n w) (hn : ∀ i, Wr.ids i → n' i) (hl : ∀ id b, look h' id = some b → look h id = some b ∧ n' id ∧ b.stb n' ρ) : HS w0 Wr ρ h' n' w where
  one := hs.one
  ok id b hb := by obtain ⟨h1, h2, h3⟩ := hl id b hb; exact ⟨h2, (hs.ok id b h1).2.1, h3⟩
  sep i b j c hi hj := hs.sep i b j c (hl i b hi).1 (hl j c hj).1
  wr i b x hi := hs.wr i b x (hl i b hi).1
  org i b x hi := hs.org i b x (hl i b hi).1
  frame := hs.frame
  os := hs.os
  tape := hs.tape
  output := hs.output
  size := hs.size
  ag := hs.ag
  inn := hn

variable {n0 : Ids} {heap : Heap} {envB envF : List (Nat × Ent)} {F : List Fact} {ρ : Rho} {E : Nat → Bool} {a : Act} {w : World} {lo hi : Nat} {full : List Oper} {j : Nat} {o : Oper} {f : Fact} {envj : List (Nat × Ent)} {ent : Ent}

theorem FInv.sat (hI : FInv K w0 Wr n0 heap envB envF F ρ E a w) (hK : FOK heap F lo hi) (hn0 : ∀ i, n0 i → i < lo) (hB : ∀ t e, (t, e) ∈ envB → e.gs = []) (D : OpD K full heap envB envF F j o f envj ent) (hf : F[j]? = some f) (hE : E j = false) (hcl : ∀ i, f.cl.testBit i = true → E i = true) :
    Sat K w0 Wr ρ (idsOf n0 F f.cl.testBit) ⟨envj, keepH f.tch (hsub heap F 0 f.cl.testBit), f.id⟩ a w where
  size := hI.size
  defers := hI.defers
  env t e he := by
    rcases D.sub t e he with ⟨h2, h7⟩ | ⟨h1, ⟨m, g, h4, h5, h6⟩, h3⟩
    · obtain ⟨g1, g2⟩ := hI.base t e h2 fun m g hm hd => by
        rcases h7 m g hm hd with rfl | h8
        · exact hE
        · cases hEm : E m with
          | false => rfl
          | true => rw [hI.cl m g hm hEm j h8] at hE; cases hE
      rw [hB t e h2]
      exact ⟨fun _ => ⟨g1, g2.mono fun _ => .inl⟩, fun h => by simp [gBool] at h⟩
    · rw [h3]
      obtain ⟨g1, g2⟩ := hI.fact m g t e h4 (hcl m h6) h5 h1
      refine ⟨fun hg => ⟨(g1 hg).1, (g1 hg).2.mono fun i => idsOf_mono fun q hq => ?_⟩, g2⟩
      simp only [cl1, Bool.or_eq_true, beq_iff_eq] at hq
      rcases hq with rfl | hq
      · exact h6
      · exact D.trans m g h4 h6 q hq
  hs := by
    refine hI.hs.part (fun i hi => .inl (hI.inn i hi)) fun id b hl => ?_
    refine ⟨hK.sees hf hE hcl hI.cl hl, ?_⟩
    obtain ⟨_, hl⟩ := (look_keepH _ _ _ _).1 hl
    rw [look_hsub hK.nd] at hl
    have hmono : ∀ m g, F[m]? = some g → f.cl.testBit m = true → ∀ i, idsOf n0 F (cl1 g m) i → idsOf n0 F f.cl.testBit i := fun m g h1 h2 i => idsOf_mono fun q hq => by
      simp only [cl1, Bool.or_eq_true, beq_iff_eq] at hq
      rcases hq with rfl | hq
      · exact h2
      · exact D.trans m g h1 h2 q hq
    refine ⟨?_, foldE_prop (P := fun b => b.stb (idsOf n0 F f.cl.testBit) ρ) hl (fun b' h => Blk.stb_move (hI.hb id b' h).2 (Agree.refl _ _) fun _ => .inl) (fun m g q b' h1 h2 h3 h4 => ?_) (fun m g b' h1 h2 h3 => ?_)⟩
    · rcases foldE_from hl with ⟨b', h⟩ | ⟨m, g, h1, h2, h3⟩
      · exact .inl (hI.hb id b' h).1
      · rw [Nat.zero_add] at h2; exact .inr ⟨m, g, h1, h2, h3⟩
    · rw [Nat.zero_add] at h2
      exact Blk.stb_move (hI.bstb m g q b' h1 (hcl m h2) h3) (Agree.refl _ _) (hmono m g h1 h2)
    · rw [Nat.zero_add] at h2
      exact Blk.stb_move (hI.wstb m g id b' h1 (hcl m h2) h3) (Agree.refl _ _) (hmono m g h1 h2)
  lt i hi' := by
    rcases hi' with hi' | ⟨m, g, h1, h2, h3, h4⟩
    · have := hn0 i hi'
      have := (OrdF.get hK.ord hf).1
      show i < f.id
      omega
    · have := OrdF.apart hK.ord h1 hf (D.bits m h2)
      show i < f.id
      omega


/-- the invariant behind one more operation -/
theorem FInv.step (hI : FInv K w0 Wr n0 heap envB envF F ρ E a w) (hE : E j = false)
    (D : OpD K full heap envB envF F j o f envj ent) (hf : F[j]? = some f) (hcl : ∀ i, f.cl.testBit i = true → E i = true)
    (hFd : ∀ m g t, F[m]? = some g → m ≠ j → o.dst = some t → g.dst ≠ some t)
    {ρ' : Rho} {v : Value} {w' : World} (ha : Agree (idsOf n0 F E) ρ ρ')
    (hv : (gBool K envF ent.gs = true → v = ent.v.den ρ' ∧ StbX (idsOf n0 F (cl1 f j)) ρ' ent.v) ∧ (gBool K envF ent.gs = false → v = undef))
    (hnew : ∀ (q : Nat) (b : Blk), f.new[q]? = some b → b.stb (idsOf n0 F (cl1 f j)) ρ')
    (hwr : ∀ (i : Nat) (b : Blk), look f.wr i = some b → b.stb (idsOf n0 F (cl1 f j)) ρ')
    (hhs : HS w0 Wr ρ' (hsub heap F 0 (add1 E j)) (idsOf n0 F (add1 E j)) w') :
    FInv K w0 Wr n0 heap envB envF F ρ' (add1 E j) (a.put o.dst v) w' := by
  have hsub1 : ∀ m g, F[m]? = some g → E m = true → ∀ i, idsOf n0 F (cl1 g m) i → idsOf n0 F E i := fun m g hg hm i => idsOf_mono fun q hq => by
    simp only [cl1, Bool.or_eq_true, beq_iff_eq] at hq
    rcases hq with rfl | hq
    · exact hm
    · exact hI.cl m g hg hm q hq
  have htm : ∀ t, o.dst ≠ some t → (a.put o.dst v).tmps[t]? = a.tmps[t]? := fun t ht => by
    cases hd : o.dst with
    | none => rfl
    | some u =>
      simp only [Act.put]
      rw [Array.getElem?_setIfInBounds_ne (by rw [hd] at ht; simpa using ht)]
  have hag0 : Agree n0 ρ ρ' := ha.mono fun _ => .inl
  exact {
    size := by cases hd : o.dst <;> simp [Act.put, hI.size]
    defers := by rw [put_defers]; exact hI.defers
    base := fun t e he hno => by
      obtain ⟨h1, h2⟩ := hI.base t e he fun m g hm hd => by
        have := hno m g hm hd
        cases hEm : E m with
        | false => rfl
        | true => rw [add1_old hEm] at this; cases this
      rw [htm t fun h => by
        have := hno j f hf (by rw [D.dst]; exact h)
        rw [add1_new] at this; cases this]
      exact ⟨by rw [h2 ρ' hag0]; exact h1, h2.move hag0⟩
    fact := fun m g t e hg hm hd he => by
      rcases add1_cases hm with rfl | hm
      · rw [hf] at hg
        simp only [Option.some.injEq] at hg
        subst hg
        rw [D.dst] at hd
        obtain ⟨g1, g2, g3, g4⟩ := D.entry t hd
        have hee := g3 e he
        subst hee
        have htt : (a.put o.dst v).tmps[t]? = some v := by
          rw [hd]
          simp only [Act.put]
          rw [Array.getElem?_setIfInBounds_self_of_lt (by rw [hI.size]; exact g1)]
        rw [htt]
        exact ⟨fun hg => ⟨by rw [(hv.1 hg).1], (hv.1 hg).2⟩, fun hg => by rw [hv.2 hg]⟩
      · have hne : m ≠ j := fun e => by rw [e, hE] at hm; cases hm
        obtain ⟨h1, h2⟩ := hI.fact m g t e hg hm hd he
        rw [htm t fun h => hFd m g t hg hne h hd]
        have hag : Agree (idsOf n0 F (cl1 g m)) ρ ρ' := ha.mono (hsub1 m g hg hm)
        exact ⟨fun hgb => ⟨by rw [(h1 hgb).2 ρ' hag]; exact (h1 hgb).1, (h1 hgb).2.move hag⟩, h2⟩
    hs := hhs
    bstb := fun m g q b hg hm hb' => by
      rcases add1_cases hm with rfl | hm
      · rw [hf] at hg
        simp only [Option.some.injEq] at hg
        subst hg
        exact hnew q b hb'
      · exact Blk.stb_move (hI.bstb m g q b hg hm hb') (ha.mono (hsub1 m g hg hm)) fun _ h => h
    wstb := fun m g i b hg hm hb' => by
      rcases add1_cases hm with rfl | hm
      · rw [hf] at hg
        simp only [Option.some.injEq] at hg
        subst hg
        exact hwr i b hb'
      · exact Blk.stb_move (hI.wstb m g i b hg hm hb') (ha.mono (hsub1 m g hg hm)) fun _ h => h
    hb := fun id b hl => by
      obtain ⟨h1, h2⟩ := hI.hb id b hl
      exact ⟨h1, Blk.stb_move h2 hag0 fun _ h => h⟩
    cl := fun m g hg hm i hi' => by
      rcases add1_cases hm with rfl | hm
      · rw [hf] at hg
        simp only [Option.some.injEq] at hg
        subst hg
        exact add1_old (hcl i hi')
      · exact add1_old (hI.cl m g hg hm i hi')
    inn := hI.inn }

/-- what an operation has done in its part of the heap, in the whole of it -/
theorem HS.merge {hE hj h' : Heap} {nE nj n' : Ids} {ρ ρ1 ρ2 : Rho} {w w' : World} {wr : Heap} {m : Nat} {new : List Blk} (hs : HS w0 Wr ρ hE nE w) (sub : ∀ id b, look hj id = some b → look hE id = some b)
    (nd : (wr.map (·.1)).Nodup) (own : ∀ i b, look wr i = some b → ∃ c, look hj i = some c ∧ c.own = true)
    (hlk : ∀ id b, look h' id = some b → (look (addH (allH hj wr) m new) id = some b ∧ (addI nj m new.length id) ∧ ((m ≤ id ∧ id < m + new.length ∧ new[id - m]? = some b) ∨ ∃ k, look wr id = some b ∧ look hE id = some k ∧ k.own = true ∧ ρ2 id = ρ id)) ∨ (look wr id = none ∧ look hE id = some b ∧ ρ2 id = ρ id))
    (hd : HS w0 Wr ρ1 (addH (allH hj wr) m new) (addI nj m new.length) w') (hbut : But (wblk ρ wr) w w')
    (hfr : ∀ i x, m ≤ i → i < m + new.length → blkOf (ρ1 i) = some x → w.heap.size ≤ x ∨ wblk ρ wr x ∨ ∃ q b k c, i = m + q ∧ new[q]? = some b ∧ b.own = false ∧ look hj k = some c ∧ c.own = false ∧ c.live = true ∧ blkOf (ρ k) = some x)
    (a12 : Agree (addI nj m new.length) ρ1 ρ2) (aE : Agree nE ρ ρ2) (hone : ∀ i, (ρ2 i).oneCell' = true) (hn : ∀ i, nE i → n' i) (hn' : ∀ i, addI nj m new.length i → n' i) : HS w0 Wr ρ2 h' n' w' where
  one := hone
  ok id b hl := by
    rcases hlk id b hl with ⟨h1, h2, _⟩ | ⟨h0, h1, h2⟩
    · obtain ⟨_, g2, g3⟩ := hd.ok id b h1
      rw [a12 id h2]
      exact ⟨hn' id h2, Blk.ok_move g3 a12 g2, Blk.stb_move g3 a12 hn'⟩
    · obtain ⟨g1, g2, g3⟩ := hs.ok id b h1
      rw [h2]
      refine ⟨hn id g1, Blk.ok_move g3 aE ?_, Blk.stb_move g3 aE hn⟩
      cases hlv : b.live with
      | true =>
        refine Blk.ok_of_block hbut.size (fun x hx => hbut.block x (Blk.block g2 hx) ?_) g2
        rintro ⟨i, c, hi, hx'⟩
        obtain ⟨c', hc'⟩ := look_of_mem nd hi
        obtain ⟨k, k1, k2⟩ := own i c' hc'
        exact hs.sep i k id b (sub i k k1) h1 (fun e => by subst e; rw [h0] at hc'; cases hc') k2 hlv x hx' hx
      | false =>
        cases b with
        | gone => exact fun x hx => Nat.lt_of_lt_of_le (g2 x hx) hbut.size
        | fix _ _ => cases hlv
        | vec _ _ _ => cases hlv
  sep i b j c hi hj hij hown hlv x hx := by
    have two : ∀ i, wblk ρ wr i → ∃ p k, look hE p = some k ∧ k.own = true ∧ blkOf (ρ p) = some i ∧ look wr p ≠ none := by
      rintro y ⟨p, c, hp, hy⟩
      obtain ⟨c', hc'⟩ := look_of_mem nd hp
      obtain ⟨k, k1, k2⟩ := own p c' hc'
      exact ⟨p, k, sub p k k1, k2, hy, by rw [hc']; simp⟩
    rcases hlk i b hi with ⟨h1, h2, h3⟩ | ⟨h0, h1, h2⟩
    · rcases hlk j c hj with ⟨g1, g2, g3⟩ | ⟨g0, g1, g2⟩
      · rw [a12 i h2] at hx
        rw [a12 j g2]
        exact hd.sep i b j c h1 g1 hij hown hlv x hx
      · rw [g2]
        rcases h3 with ⟨n1, n2, n3⟩ | ⟨k, k0, k1, k2, k3⟩
        · rw [a12 i h2] at hx
          intro hxj
          rcases hfr i x n1 n2 hx with hge | hw | ⟨q, b', k, c', q1, q2, q3, _⟩
          · have := Blk.block (hs.ok j c g1).2.1 hxj; omega
          · obtain ⟨p, k, p1, p2, p3, p4⟩ := two x hw
            exact hs.sep p k j c p1 g1 (fun e => by subst e; exact p4 g0) p2 hlv x p3 hxj
          · have : i - m = q := by omega
            rw [this, q2] at n3
            simp only [Option.some.injEq] at n3
            subst n3
            rw [q3] at hown; cases hown
        · rw [k3] at hx
          exact hs.sep i k j c k1 g1 hij k2 hlv x hx
    · rw [h2] at hx
      rcases hlk j c hj with ⟨g1, g2, g3⟩ | ⟨g0, g1, g2⟩
      · rcases g3 with ⟨n1, n2, n3⟩ | ⟨k, k0, k1, k2, k3⟩
        · rw [a12 j g2]
          intro hxj
          have hxl := Blk.block (hs.ok i b h1).2.1 hx
          rcases hfr j x n1 n2 hxj with hge | hw | ⟨q, b', k, c', q1, q2, q3, q4, q5, q5l, q6⟩
          · omega
          · obtain ⟨p, k, p1, p2, p3, p4⟩ := two x hw
            exact hs.sep p k i b p1 h1 (fun e => by subst e; exact p4 h0) p2 (Blk.live_own hown) x p3 hx
          · have q4' := sub k c' q4
            exact hs.sep i b k c' h1 q4' (fun e => by subst e; rw [h1] at q4'; simp only [Option.some.injEq] at q4'; subst q4'; rw [q5] at hown; cases hown) hown q5l x hx q6
        · rw [k3]
          exact hs.sep i b j k h1 k1 hij hown (Blk.live_own k2) x hx
      · rw [g2]
        exact hs.sep i b j c h1 g1 hij hown hlv x hx
  wr i b x hi hown hx := by
    rcases hlk i b hi with ⟨h1, h2, _⟩ | ⟨h0, h1, h2⟩
    · rw [a12 i h2] at hx; exact hd.wr i b x h1 hown hx
    · rw [h2] at hx; exact hs.wr i b x h1 hown hx
  org i b x hi hlv hx := by
    rcases hlk i b hi with ⟨h1, h2, _⟩ | ⟨h0, h1, h2⟩
    · rw [a12 i h2] at hx; exact hd.org i b x h1 hlv hx
    · rw [h2] at hx; exact hs.org i b x h1 hlv hx
  frame := hd.frame
  os := hd.os
  tape := hd.tape
  output := hd.output
  size := hd.size
  ag := hs.ag.trans aE hs.inn
  inn i hi := hn i (hs.inn i hi)

/-- one operation of the front, in whatever order -/
theorem front_step (hA : K.A = stdA) (hT : TOK P K.T) (hC : COK P K.C) {ops : Array Oper} (hl : ops.toList = full) {Q : Exit → Act → World → Prop}
    (hI : FInv K w0 Wr n0 heap envB envF F ρ E a w) (hK : FOK heap F lo hi) (hn0 : ∀ i, n0 i → i < lo) (hB : ∀ t e, (t, e) ∈ envB → e.gs = []) (hE : E j = false)
    (D : OpD K full heap envB envF F j o f envj ent) (hf : F[j]? = some f) (ho : ops[j]? = some o) (hcl : ∀ i, f.cl.testBit i = true → E i = true)
    (hFd : ∀ m g t, F[m]? = some g → m ≠ j → o.dst = some t → g.dst ≠ some t) :
    wpOp P ops Q j (fun a' w' => ∃ ρ', FInv K w0 Wr n0 heap envB envF F ρ' (add1 E j) a' w') a w := by
  have hS := hI.sat hK hn0 hB D hf hE hcl
  have hdis : ∀ i, idsOf n0 F E i → ¬ (f.id ≤ i ∧ i < f.id + f.new.length) := fun i hi' hr => by
    rcases hi' with hi' | ⟨m, g, h1, h2, h3, h4⟩
    · have := hn0 i hi'; have := (OrdF.get hK.ord hf).1; omega
    · exact hK.apart h1 hf (fun e => by rw [e, hE] at h2; cases h2) ⟨h3, h4⟩ hr
  have hAjE : ∀ i, idsOf n0 F f.cl.testBit i → idsOf n0 F E i := fun i => idsOf_mono fun m hm => hcl m hm
  -- what a result gives
  have fin : ∀ (r : FR) (v : Value) (w' : World), f.wr = r.wr → f.new = r.new → Did w0 Wr ρ (keepH f.tch (hsub heap F 0 f.cl.testBit)) (idsOf n0 F f.cl.testBit) f.id w r v w' → ent.v = r.val → gBool K envF ent.gs = true →
      ∃ ρ', FInv K w0 Wr n0 heap envB envF F ρ' (add1 E j) (a.put o.dst v) w' := by
    intro r v w' hwr hnew ⟨ρ1, d1, d2, d3, d4, d5, d6⟩ hev hgt
    rw [← hnew] at d3 d4 d6
    rw [← hwr] at d4 d5 d6
    let ρ2 : Rho := fun i => if f.id ≤ i ∧ i < f.id + f.new.length then ρ1 i else ρ i
    have e2 : ∀ i, f.id ≤ i → i < f.id + f.new.length → ρ2 i = ρ1 i := fun i h1 h2 => if_pos ⟨h1, h2⟩
    have e3 : ∀ i, ¬ (f.id ≤ i ∧ i < f.id + f.new.length) → ρ2 i = ρ i := fun i h => if_neg h
    have a12 : Agree (addI (idsOf n0 F f.cl.testBit) f.id f.new.length) ρ1 ρ2 := fun i hi' => by
      rcases hi' with hi' | ⟨h1, h2⟩
      · rw [e3 i (hdis i (hAjE i hi'))]; exact (d1 i hi').symm
      · exact e2 i h1 h2
    have hsubA : ∀ i, addI (idsOf n0 F f.cl.testBit) f.id f.new.length i → idsOf n0 F (cl1 f j) i := fun i hi' => by
      rcases hi' with hi' | ⟨h1, h2⟩
      · exact idsOf_mono (fun m hm => by simp [cl1, hm]) hi'
      · exact .inr ⟨j, f, hf, by simp [cl1], h1, h2⟩
    have hnd := hK.nd j f hf
    have hown : ∀ i b, look f.wr i = some b → ∃ c, look (keepH f.tch (hsub heap F 0 f.cl.testBit)) i = some c ∧ c.own = true := fun i b hb => by
      obtain ⟨c, c1, c2⟩ := hK.prs j f i b hf hb
      exact ⟨c, (look_keepH _ _ _ _).2 ⟨hK.wt j f i b hf hb, c1⟩, c2⟩
    have hsees : ∀ id b, look (keepH f.tch (hsub heap F 0 f.cl.testBit)) id = some b → look (hsub heap F 0 E) id = some b := fun id b hb => hK.sees hf hE hcl hI.cl hb
    have aE : Agree (idsOf n0 F E) ρ ρ2 := fun i hi' => e3 i (hdis i hi')
    have lkw : ∀ i b, look f.wr i = some b → ¬ (f.id ≤ i ∧ i < f.id + f.new.length) ∧ look (addH (allH (keepH f.tch (hsub heap F 0 f.cl.testBit)) f.wr) f.id f.new) i = some b := fun i b hb => by
      obtain ⟨c, c1, c2⟩ := hown i b hb
      have hr := hdis i (hI.hs.ok i c (hsees i c c1)).1
      refine ⟨hr, ?_⟩
      rw [look_addH, if_neg hr, look_allH _ _ _ hnd, hb, c1]; rfl
    have lkn : ∀ (q : Nat) (b : Blk), f.new[q]? = some b → q < f.new.length ∧ look (addH (allH (keepH f.tch (hsub heap F 0 f.cl.testBit)) f.wr) f.id f.new) (f.id + q) = some b := fun q b hq => by
      have hlt := get_lt hq
      refine ⟨hlt, ?_⟩
      rw [look_addH, if_pos ⟨by omega, by omega⟩, show f.id + q - f.id = q from by omega]
      exact hq
    refine ⟨ρ2, hI.step hE D hf hcl hFd (ρ' := ρ2) aE ⟨fun _ => ?_, (fun h => by rw [hgt] at h; cases h)⟩ (fun q b hb => ?_) (fun i b hb => ?_) ?_⟩
    · rw [hev]
      exact ⟨by rw [d3 ρ2 a12]; exact d2, StbX.mono (StbX.move d3 a12) hsubA⟩
    · exact Blk.stb_move (d4.ok _ _ (lkn q b hb).2).2.2 a12 hsubA
    · exact Blk.stb_move (d4.ok _ _ (lkw i b hb).2).2.2 a12 hsubA
    · refine HS.merge (n' := idsOf n0 F (add1 E j)) hI.hs hsees hnd hown (fun id b hl => ?_) d4 d5 d6 a12 aE (fun i => ?_) (fun i => idsOf_mono fun m => add1_old) (fun i hi' => ?_)
      · rw [hK.more hf hE hI.cl] at hl
        unfold eff at hl
        split at hl
        · rename_i hr
          have := (lkn _ b hl).2
          rw [show f.id + (id - f.id) = id from by omega] at this
          exact .inl ⟨this, .inr hr, .inl ⟨hr.1, hr.2, hl⟩⟩
        · rename_i hr
          split at hl
          · rename_i b' hb'
            obtain ⟨c, c1, c2⟩ := hown id b' hb'
            have c3 := hsees id c c1
            rw [c3] at hl
            simp only [Option.map_some, Option.some.injEq] at hl
            subst hl
            exact .inl ⟨(lkw id _ hb').2, .inl (hS.hs.ok id c c1).1, .inr ⟨c, hb', c3, c2, e3 id hr⟩⟩
          · rename_i hno
            exact .inr ⟨hno, hl, e3 id hr⟩
      · by_cases h : f.id ≤ i ∧ i < f.id + f.new.length
        · rw [e2 i h.1 h.2]; exact d4.one i
        · rw [e3 i h]; exact hI.hs.one i
      · refine idsOf_mono (fun q hq => ?_) (hsubA i hi')
        simp only [cl1, Bool.or_eq_true, beq_iff_eq] at hq
        rcases hq with rfl | hq
        · exact add1_new
        · exact add1_old (hcl q hq)
  have skip : f.new = [] → f.wr = [] → gBool K envF ent.gs = false → ∃ ρ', FInv K w0 Wr n0 heap envB envF F ρ' (add1 E j) (a.put o.dst undef) w := fun hnew hwr hgf => by
    refine ⟨ρ, hI.step hE D hf hcl hFd (Agree.refl _ _) ⟨(fun h => by rw [hgf] at h; cases h), fun _ => rfl⟩ (fun q b hb => by rw [hnew] at hb; simp at hb) (fun i b hb => by rw [hwr] at hb; simp [look] at hb) ?_⟩
    refine hI.hs.part (fun i hi' => .inl (hI.inn i hi')) fun id b hl => ?_
    rw [hK.more hf hE hI.cl, Quiet.eff ⟨by rw [hnew]; simp only [List.length_nil]; omega, by rw [hwr]; rfl⟩] at hl
    obtain ⟨g1, _, g3⟩ := hI.hs.ok id b hl
    exact ⟨hl, idsOf_mono (fun m => add1_old) g1, Blk.stb_move g3 (Agree.refl _ _) fun i => idsOf_mono fun m => add1_old⟩
  unfold wpOp
  simp only [ho]
  have hrun := D.run
  have hgd := fun G hG => guard_sound (G := G) hA hS hl o hG
  split at hrun
  · exact hrun.elim
  · rename_i hG
    have hw := hgd _ hG
    simp only at hw
    rw [hw]
    simp only [Bool.false_eq_true, if_false]
    obtain ⟨h1, h1', h2⟩ := hrun
    refine fin ⟨[], .c (.s .un), [], []⟩ undef w h1' h1 ⟨ρ, Agree.refl _ _, rfl, fun _ _ => rfl, hS.hs.addI0, But.of (RowKit.Below.refl _ _), fun i x g1 g2 => by simp at g2; omega⟩ (by rw [h2]) (by rw [h2]; rfl)
  · rename_i hG
    have hw := hgd _ hG
    simp only at hw
    rw [hw]
    simp only [if_true]
    obtain ⟨r, h1, h2, h3, h4, h5⟩ := hrun
    exact .inl (Res.wp (evOp_sound hA hT hC hS rfl h1 h2) fun v w' hd => fin r v w' h3 h4 hd (by rw [h5]) (by rw [h5]; rfl))
  · rename_i gs hG
    have hw := hgd _ hG
    simp only at hw
    obtain ⟨r, h1, h2, h3, h4, h5', h5, h6, hdst⟩ := hrun
    have hent : ∀ b, gBool K envj gs = b → o.dst ≠ none → gBool K envF ent.gs = b := fun b hb hd => by
      cases hdd : o.dst with
      | none => exact absurd hdd hd
      | some t =>
        have := (D.entry t hdd).2.2.2
        rw [h6] at this ⊢
        rw [← this]; exact hb
    rw [hw]
    -- without a place for the result nothing hangs on the entry
    cases hg : gBool K envj gs with
    | true =>
      simp only [if_true]
      refine .inl (Res.wp (evOp_sound hA hT hC hS hg h1 (h2 hg)) fun v w' hd => ?_)
      exact fin r v w' (by rw [h5', h3]) (by rw [h5, h4]) hd (by rw [h6]) (hent true hg hdst)
    | false =>
      simp only [Bool.false_eq_true, if_false]
      exact skip h5 h5' (hent false hg hdst)


/-! ## the orders -/

theorem binds_cases (e : Edge) : Region.binds .any e = (match e.ground with | .textOnly _ => false | .gcOnly _ => false | _ => true) := by
  unfold Region.binds
  cases e.ground <;> rfl

theorem clE_bits : ∀ {l : List Edge} {cl : Nat}, clE F l = some cl →
    (∀ e, e ∈ l → Region.binds .any e = true → ∃ g, F[e.on]? = some g ∧ cl.testBit e.on = true ∧ ∀ i, g.cl.testBit i = true → cl.testBit i = true) ∧
    (∀ i, cl.testBit i = true → ∃ e g, e ∈ l ∧ Region.binds .any e = true ∧ F[e.on]? = some g ∧ (i = e.on ∨ g.cl.testBit i = true))
  | [], cl, h => by
    simp only [clE, Option.some.injEq] at h
    subst h
    exact ⟨fun e he => by simp at he, fun i hi => by simp at hi⟩
  | e :: r, cl, h => by
    simp only [clE] at h
    split at h
    · simp at h
    · rename_i m hm
      obtain ⟨h1, h2⟩ := clE_bits hm
      have keep : Region.binds .any e = false → cl = m → _ := fun hb hcm => by
        subst hcm
        exact (⟨fun e' he' hb' => by
          simp only [List.mem_cons] at he'
          rcases he' with rfl | he'
          · rw [hb] at hb'; cases hb'
          · exact h1 e' he' hb', fun i hi => by
          obtain ⟨e', g, g1, g2⟩ := h2 i hi
          exact ⟨e', g, List.mem_cons_of_mem _ g1, g2⟩⟩ :
          (∀ e', e' ∈ e :: r → Region.binds .any e' = true → ∃ g, F[e'.on]? = some g ∧ cl.testBit e'.on = true ∧ ∀ i, g.cl.testBit i = true → cl.testBit i = true) ∧
          (∀ i, cl.testBit i = true → ∃ e' g, e' ∈ e :: r ∧ Region.binds .any e' = true ∧ F[e'.on]? = some g ∧ (i = e'.on ∨ g.cl.testBit i = true)))
      split at h
      · rename_i hgr
        simp only [Option.some.injEq] at h
        exact keep (by rw [binds_cases, hgr]) h.symm
      · rename_i hgr
        simp only [Option.some.injEq] at h
        exact keep (by rw [binds_cases, hgr]) h.symm
      · rename_i hg1 hg2
        split at h
        · rename_i f hf
          simp only [Option.some.injEq] at h
          subst h
          have hb : Region.binds .any e = true := by
            rw [binds_cases]
            split
            · rename_i d hd; exact absurd hd (hg1 d)
            · rename_i d hd; exact absurd hd (hg2 d)
            · rfl
          refine ⟨fun e' he' hb' => ?_, fun i hi => ?_⟩
          · simp only [List.mem_cons] at he'
            rcases he' with rfl | he'
            · exact ⟨f, hf, by simp [Nat.testBit_or, Nat.testBit_two_pow_self], fun i hi => by simp [Nat.testBit_or, hi]⟩
            · obtain ⟨g, g1, g2, g3⟩ := h1 e' he' hb'
              exact ⟨g, g1, by simp [Nat.testBit_or, g2], fun i hi => by simp [Nat.testBit_or, g3 i hi]⟩
          · simp only [Nat.testBit_or, Bool.or_eq_true] at hi
            rcases hi with (hi | hi) | hi
            · obtain ⟨e', g, g1, g2⟩ := h2 i hi
              exact ⟨e', g, List.mem_cons_of_mem _ g1, g2⟩
            · refine ⟨e, f, List.mem_cons_self .., hb, hf, .inl ?_⟩
              rw [Nat.testBit_two_pow] at hi
              exact (by simpa using hi : e.on = i).symm
            · exact ⟨e, f, List.mem_cons_self .., hb, hf, .inr hi⟩
        · simp at h


theorem get_push {F : List Fact} {f g : Fact} {m : Nat} (h : (F ++ [f])[m]? = some g) : F[m]? = some g ∨ (m = F.length ∧ g = f) := by
  rcases Nat.lt_or_ge m F.length with hlt | hge
  · rw [List.getElem?_append_left hlt] at h; exact .inl h
  · rw [List.getElem?_append_right hge] at h
    have : m - F.length = 0 := by
      rcases Nat.eq_zero_or_pos (m - F.length) with h0 | h0
      · exact h0
      · rw [List.getElem?_eq_none (by simp; omega)] at h; simp at h
    rw [this] at h
    simp only [List.getElem?_cons_zero, Option.some.injEq] at h
    exact .inr ⟨by omega, h.symm⟩

theorem get_old {F : List Fact} {f g : Fact} {m : Nat} (h : F[m]? = some g) : (F ++ [f])[m]? = some g := by
  have : m < F.length := by
    rcases Nat.lt_or_ge m F.length with hlt | hge
    · exact hlt
    · rw [List.getElem?_eq_none hge] at h; simp at h
  rw [List.getElem?_append_left this]; exact h

theorem clE_lt {l : List Edge} {cl : Nat} (hb : BitsOK F) (h : clE F l = some cl) : ∀ i, cl.testBit i = true → i < F.length := fun i hi => by
  obtain ⟨e, g, _, _, h3, h4⟩ := (clE_bits h).2 i hi
  have := get_lt h3
  rcases h4 with rfl | h4
  · exact this
  · have := hb _ _ h3 i h4; omega

theorem BitsOK.push {l : List Edge} {cl : Nat} (hb : BitsOK F) (h : clE F l = some cl) (d : Option Nat) (q : Nat) (n : List Blk) (rd : List Nat) (wr : Heap) (tch : List Nat) : BitsOK (F ++ [⟨d, cl, q, n, rd, wr, tch⟩]) := fun m f hf i hi => by
  rcases get_push hf with hf | ⟨rfl, rfl⟩
  · exact hb m f hf i hi
  · exact clE_lt hb h i hi

theorem full_bits {cl j : Nat} (h : ((cl ||| 2 ^ j) + 1 == 2 ^ (j + 1)) = true) {i : Nat} (hi : i < j) : cl.testBit i = true := by
  simp only [beq_iff_eq] at h
  have h1 : (cl ||| 2 ^ j) = 2 ^ (j + 1) - 1 := by omega
  have h2 := congrArg (fun x => x.testBit i) h1
  simp only [Nat.testBit_or, Nat.testBit_two_pow_sub_one, Nat.testBit_two_pow] at h2
  have h3 : decide (j = i) = false := by simp; omega
  rw [h3, Bool.or_false] at h2
  rw [h2]; simp; omega

/-- the tail: one behind the other -/
theorem tail_any {ops : Array Oper} {Q : Exit → Act → World → Prop} : ∀ (tl : List Oper) (F : List Fact) (fuel : Nat) (listed : Array Bool) (a : Act) (w : World), tl.length ≤ fuel → BitsOK F → tailOK F tl F.length = true →
    (∀ i, tl[i]? = ops[F.length + i]?) → F.length + tl.length = ops.size → listed.size = ops.size → (∀ i, i < ops.size → (listed.getD i true = true ↔ i < F.length)) →
    wpList P ops Q tl a w → wpAny P .any ops Q fuel listed a w
  | [], F, fuel, listed, a, w, _, hb, ht, hops, hlen, hsz, hli, h => by
    simp only [List.length_nil, Nat.add_zero] at hlen
    have hno : Region.ready .any ops listed = [] := by
      rw [List.eq_nil_iff_forall_not_mem]
      intro i hi
      obtain ⟨h1, o, ho, _⟩ := mem_ready.1 hi
      have : i < ops.size := by
        rcases Nat.lt_or_ge i ops.size with h | h
        · exact h
        · rw [Array.getElem?_eq_none h] at ho; simp at ho
      rw [(hli i this).2 (by omega)] at h1
      cases h1
    cases fuel with
    | zero => exact ⟨hno, h⟩
    | succ fuel => exact ⟨fun _ => h, fun i hi => by rw [hno] at hi; simp at hi⟩
  | o :: rest, F, 0, listed, a, w, hfu, hb, ht, hops, hlen, hsz, hli, h => by simp at hfu
  | o :: rest, F, fuel + 1, listed, a, w, hfu, hb, ht, hops, hlen, hsz, hli, h => by
    simp only [tailOK] at ht
    split at ht
    · rename_i cl hcl
      simp only [Bool.and_eq_true] at ht
      obtain ⟨ht1, ht2⟩ := ht
      have ho : ops[F.length]? = some o := by have := hops 0; simpa using this.symm
      have hlt : F.length < ops.size := by simp only [List.length_cons] at hlen; omega
      have hmem : F.length ∈ Region.ready .any ops listed := by
        refine mem_ready.2 ⟨?_, o, ho, fun e he hbe => ?_⟩
        · cases hg : listed.getD F.length true with
          | false => rfl
          | true => have := (hli _ hlt).1 hg; omega
        · obtain ⟨g, hg, _⟩ := (clE_bits hcl).1 e (by simpa using he) hbe
          have h1 := get_lt hg
          have h2 := (hli e.on (by omega)).2 h1
          have h3 : e.on < listed.size := by omega
          simp only [Array.getD, h3, dif_pos] at h2 ⊢
          exact h2
      have honly : ∀ i, i ∈ Region.ready .any ops listed → i = F.length := fun i hi => by
        obtain ⟨h1, o', ho', hall⟩ := mem_ready.1 hi
        have hilt : i < ops.size := by
          rcases Nat.lt_or_ge i ops.size with h | h
          · exact h
          · rw [Array.getElem?_eq_none h] at ho'; simp at ho'
        have hge : F.length ≤ i := by
          rcases Nat.lt_or_ge i F.length with h | h
          · rw [(hli i hilt).2 h] at h1; cases h1
          · exact h
        rcases Nat.eq_or_lt_of_le hge with h | h
        · exact h.symm
        · exfalso
          -- the operation behind it needs it
          have key : ∀ (tl : List Oper) (G : List Fact), BitsOK G → F.length < G.length → tailOK G tl G.length = true → ∀ (m : Nat) (o'' : Oper), tl[m]? = some o'' → (∀ e, e ∈ o''.after → Region.binds .any e = true → listed.getD e.on false = true) → False := by
            intro tl
            induction tl with
            | nil => intro G _ _ _ m o'' hm; simp at hm
            | cons x r ih =>
              intro G hG hlG htG m o'' hm hall
              simp only [tailOK] at htG
              split at htG
              · rename_i cl' hcl'
                simp only [Bool.and_eq_true] at htG
                cases m with
                | zero =>
                  simp only [List.getElem?_cons_zero, Option.some.injEq] at hm
                  subst hm
                  have hbit := full_bits htG.1 hlG
                  obtain ⟨e, g, g1, g2, g3, g4⟩ := (clE_bits hcl').2 _ hbit
                  have hl := hall e (by simpa using g1) g2
                  have hl' : e.on < F.length := by
                    have h3 : e.on < listed.size := by
                      rcases Nat.lt_or_ge e.on listed.size with h | h
                      · exact h
                      · simp [Array.getD, show ¬ e.on < listed.size by omega] at hl
                    refine (hli e.on (by omega)).1 ?_
                    simp only [Array.getD, h3, dif_pos] at hl ⊢
                    exact hl
                  rcases g4 with g4 | g4
                  · omega
                  · have := hG _ _ g3 _ g4; omega
                | succ m =>
                  exact ih (G ++ [⟨none, cl', 0, [], [], [], []⟩]) (hG.push hcl' _ _ _ _ _ _) (by simp; omega) (by simpa using htG.2) m o'' (by simpa using hm) hall
              · simp at htG
          have hm : rest[i - F.length - 1]? = some o' := by
            have := hops (i - F.length)
            rw [show F.length + (i - F.length) = i from by omega, ho', show i - F.length = (i - F.length - 1) + 1 from by omega, List.getElem?_cons_succ] at this
            exact this
          exact key rest (F ++ [⟨none, cl, 0, [], [], [], []⟩]) (hb.push hcl _ _ _ _ _ _) (by simp) (by simpa using ht2) _ o' hm hall
      refine ⟨fun h0 => by rw [h0] at hmem; simp at hmem, fun i hi => ?_⟩
      rw [honly i hi]
      have step : ∀ a w, wpList P ops Q rest a w → wpAny P .any ops Q fuel (listed.setIfInBounds F.length true) a w := fun a' w' h' =>
        tail_any rest (F ++ [⟨none, cl, 0, [], [], [], []⟩]) fuel _ a' w' (by simp only [List.length_cons] at hfu; omega) (hb.push hcl _ _ _ _ _ _) (by simpa using ht2)
          (fun i => by
            have := hops (i + 1)
            rw [List.getElem?_cons_succ] at this
            rw [this]; congr 1; simp; omega)
          (by simp only [List.length_cons] at hlen; simp; omega) (by simpa using hsz)
          (fun i hi => by
            have hi' : i < listed.size := by omega
            by_cases he : i = F.length
            · subst he
              simp [Array.getD, hi']
            · rw [getD_set_ne true (fun e => he e.symm), hli i hi]
              simp only [List.length_append, List.length_cons, List.length_nil]
              omega) h'
      unfold wpOp
      simp only [ho]
      simp only [wpList] at h
      split at h
      · rename_i hw
        rw [if_pos hw]
        exact h.imp (Oper.wp_mono fun a w => step a w) id
      · rename_i hw
        rw [if_neg hw]
        exact step _ _ h
    · simp at ht

end
end Go.Eng
