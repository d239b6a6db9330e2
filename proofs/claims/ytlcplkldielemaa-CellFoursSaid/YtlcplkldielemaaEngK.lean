/- The engine, part K: regions that draw their order. -/
import Derived.Test.YtlcplkldielemaaEngJ
set_option linter.all false
set_option exponentiation.threshold 3000
namespace Go.Eng

theorem look_addH : ∀ (l : List Blk) (h : Heap) (m id : Nat), look (addH h m l) id = if m ≤ id ∧ id < m + l.length then l[id - m]? else look h id
  | [], h, m, id => by
    simp only [addH, List.length_nil, Nat.add_zero]
    rw [if_neg (by omega)]
  | b :: r, h, m, id => by
    simp only [addH, look, List.length_cons]
    by_cases he : m = id
    · subst he
      simp
    · rw [if_neg (by simpa using he), look_addH r h (m + 1) id]
      by_cases h1 : m + 1 ≤ id ∧ id < m + 1 + r.length
      · rw [if_pos h1, if_pos (by omega), show id - m = (id - (m + 1)) + 1 from by omega, List.getElem?_cons_succ]
      · rw [if_neg h1, if_neg (by omega)]

/-- the facts' handles follow one another -/
def OrdF : List Fact → Nat → Nat → Prop
  | [], lo, hi => lo = hi
  | f :: r, lo, hi => f.id = lo ∧ OrdF r (lo + f.new.length) hi

theorem OrdF.le : ∀ {F : List Fact} {lo hi : Nat}, OrdF F lo hi → lo ≤ hi
  | [], _, _, h => by simp only [OrdF] at h; omega
  | f :: r, lo, hi, h => by have := OrdF.le h.2; omega

theorem OrdF.push : ∀ {F : List Fact} {lo hi : Nat} {f : Fact}, OrdF F lo hi → f.id = hi → OrdF (F ++ [f]) lo (hi + f.new.length)
  | [], lo, hi, f, h, hf => by simp only [OrdF] at h; subst h; exact ⟨hf, by simp [OrdF]⟩
  | g :: r, lo, hi, f, h, hf => ⟨h.1, OrdF.push h.2 hf⟩

theorem OrdF.get : ∀ {F : List Fact} {lo hi : Nat}, OrdF F lo hi → ∀ {m : Nat} {f : Fact}, F[m]? = some f → lo ≤ f.id ∧ f.id + f.new.length ≤ hi
  | [], _, _, _, m, f, h => by simp at h
  | g :: r, lo, hi, h, m, f, hf => by
    cases m with
    | zero =>
      simp only [List.getElem?_cons_zero, Option.some.injEq] at hf
      subst hf
      have := OrdF.le h.2
      exact ⟨by have := h.1; omega, by have := h.1; omega⟩
    | succ m =>
      obtain ⟨h1, h2⟩ := OrdF.get h.2 (by simpa using hf)
      exact ⟨by omega, h2⟩

/-- different facts have different handles -/
theorem OrdF.apart : ∀ {F : List Fact} {lo hi : Nat}, OrdF F lo hi → ∀ {m k : Nat} {f g : Fact}, F[m]? = some f → F[k]? = some g → m < k → f.id + f.new.length ≤ g.id
  | [], _, _, _, m, k, f, g, h, _, _ => by simp at h
  | x :: r, lo, hi, h, m, k, f, g, hf, hg, hlt => by
    cases k with
    | zero => omega
    | succ k =>
      cases m with
      | zero =>
        simp only [List.getElem?_cons_zero, Option.some.injEq] at hf
        subst hf
        have := (OrdF.get h.2 (show r[k]? = some g by simpa using hg)).1
        have := h.1
        omega
      | succ m => exact OrdF.apart h.2 (by simpa using hf) (by simpa using hg) (by omega)

theorem look_hsub {h : Heap} : ∀ {F : List Fact} {lo hi : Nat}, OrdF F lo hi → (∀ id b, look h id = some b → id < lo) → ∀ (j : Nat) (c : Nat → Bool) (id : Nat) (b : Blk),
    look (hsub h F j c) id = some b ↔ look h id = some b ∨ ∃ m f, F[m]? = some f ∧ c (j + m) = true ∧ f.id ≤ id ∧ f.new[id - f.id]? = some b
  | [], lo, hi, ho, hh, j, c, id, b => by simp [hsub]
  | f :: r, lo, hi, ho, hh, j, c, id, b => by
    have ih := look_hsub ho.2 (fun id b hl => by have := hh id b hl; omega) (j + 1) c id b
    have hsplit : (∃ m g, (f :: r)[m]? = some g ∧ c (j + m) = true ∧ g.id ≤ id ∧ g.new[id - g.id]? = some b) ↔
        (c j = true ∧ f.id ≤ id ∧ f.new[id - f.id]? = some b) ∨ ∃ m g, r[m]? = some g ∧ c (j + 1 + m) = true ∧ g.id ≤ id ∧ g.new[id - g.id]? = some b := by
      constructor
      · rintro ⟨m, g, h1, h2, h3, h4⟩
        cases m with
        | zero => simp only [List.getElem?_cons_zero, Option.some.injEq] at h1; subst h1; exact .inl ⟨h2, h3, h4⟩
        | succ m => exact .inr ⟨m, g, by simpa using h1, by rw [← h2]; congr 1; omega, h3, h4⟩
      · rintro (⟨h1, h2, h3⟩ | ⟨m, g, h1, h2, h3, h4⟩)
        · exact ⟨0, f, by simp, h1, h2, h3⟩
        · exact ⟨m + 1, g, by simpa using h1, by rw [← h2]; congr 1; omega, h3, h4⟩
    rw [hsplit]
    simp only [hsub]
    by_cases hc : c j = true
    · rw [if_pos hc, look_addH]
      by_cases hin : f.id ≤ id ∧ id < f.id + f.new.length
      · rw [if_pos hin]
        constructor
        · intro h1; exact .inr (.inl ⟨hc, hin.1, h1⟩)
        · rintro (h1 | ⟨_, _, h1⟩ | ⟨m, g, h1, h2, h3, h4⟩)
          · have := hh id b h1; have := ho.1; omega
          · exact h1
          · have := (OrdF.get ho.2 h1).1; have := ho.1; omega
      · rw [if_neg hin, ih]
        constructor
        · rintro (h1 | h1)
          · exact .inl h1
          · exact .inr (.inr h1)
        · rintro (h1 | ⟨_, h1, h2⟩ | h1)
          · exact .inl h1
          · exfalso
            have : id - f.id < f.new.length := by
              rcases Nat.lt_or_ge (id - f.id) f.new.length with h | h
              · exact h
              · rw [List.getElem?_eq_none h] at h2; simp at h2
            omega
          · exact .inr h1
    · rw [if_neg hc, ih]
      constructor
      · rintro (h1 | h1)
        · exact .inl h1
        · exact .inr (.inr h1)
      · rintro (h1 | ⟨h1, _⟩ | h1)
        · exact .inl h1
        · exact absurd h1 hc
        · exact .inr h1

/-- the handles of before, and those of the facts that c tells -/
def idsOf (n0 : Ids) (F : List Fact) (c : Nat → Bool) : Ids := fun i => n0 i ∨ ∃ m f, F[m]? = some f ∧ c m = true ∧ f.id ≤ i ∧ i < f.id + f.new.length

theorem idsOf_mono {n0 : Ids} {F : List Fact} {c d : Nat → Bool} (h : ∀ m, c m = true → d m = true) {i : Nat} (hi : idsOf n0 F c i) : idsOf n0 F d i := by
  rcases hi with hi | ⟨m, f, h1, h2, h3⟩
  · exact .inl hi
  · exact .inr ⟨m, f, h1, h _ h2, h3⟩

/-- itself and what must stand before it -/
def cl1 (f : Fact) (m : Nat) : Nat → Bool := fun i => i == m || f.cl.testBit i

section
variable {P : Program} {K : Cx} {w0 : World} {Wr : Base}

/-- what is known while the front's operations that E tells have run -/
structure FInv (K : Cx) (w0 : World) (Wr : Base) (n0 : Ids) (heap : Heap) (envB envF : List (Nat × Ent)) (F : List Fact) (ρ : Rho) (E : Nat → Bool) (a : Act) (w : World) : Prop where
  size : a.tmps.size = K.N
  defers : a.defers = []
  base : ∀ t e, (t, e) ∈ envB → (∀ (m : Nat) (g : Fact), F[m]? = some g → g.dst = some t → E m = false) → a.tmps[t]? = some (e.v.den ρ) ∧ StbX n0 ρ e.v
  fact : ∀ m f t e, F[m]? = some f → E m = true → f.dst = some t → (t, e) ∈ envF → (gBool K envF e.gs = true → a.tmps[t]? = some (e.v.den ρ) ∧ StbX (idsOf n0 F (cl1 f m)) ρ e.v) ∧ (gBool K envF e.gs = false → a.tmps[t]? = some undef)
  hs : HS w0 Wr ρ (hsub heap F 0 E) (idsOf n0 F E) w
  bstb : ∀ (m : Nat) (f : Fact) (q : Nat) (b : Blk), F[m]? = some f → E m = true → f.new[q]? = some b → b.stb (idsOf n0 F (cl1 f m)) ρ
  hb : ∀ (id : Nat) (b : Blk), look heap id = some b → n0 id ∧ b.stb n0 ρ
  cl : ∀ m f, F[m]? = some f → E m = true → ∀ i, f.cl.testBit i = true → E i = true
  inn : ∀ i, Wr.ids i → n0 i

/-- what is known of one operation of the front, whatever has run -/
structure OpD (K : Cx) (full : List Oper) (heap : Heap) (envB envF : List (Nat × Ent)) (F : List Fact) (j : Nat) (o : Oper) (f : Fact) (envj : List (Nat × Ent)) (ent : Ent) : Prop where
  sub : ∀ t e, (t, e) ∈ envj → ((t, e) ∈ envB ∧ ∀ (m : Nat) (g : Fact), F[m]? = some g → g.dst = some t → m = j ∨ g.cl.testBit j = true) ∨
    ((t, e) ∈ envF ∧ (∃ m g, F[m]? = some g ∧ g.dst = some t ∧ f.cl.testBit m = true) ∧ gBool K envj e.gs = gBool K envF e.gs)
  dst : f.dst = o.dst
  entry : ∀ t, o.dst = some t → t < K.N ∧ (t, ent) ∈ envF ∧ (∀ e, (t, e) ∈ envF → e = ent) ∧ gBool K envj ent.gs = gBool K envF ent.gs
  bits : ∀ i, f.cl.testBit i = true → i < j
  trans : ∀ m g, F[m]? = some g → f.cl.testBit m = true → ∀ i, g.cl.testBit i = true → f.cl.testBit i = true
  run : match guardOf full ⟨envj, hsub heap F 0 f.cl.testBit, f.id⟩ o with
    | .bad => False
    | .off => f.new = [] ∧ ent = ⟨[], .c (.s .un)⟩
    | .on => ∃ r, evOp K ⟨envj, hsub heap F 0 f.cl.testBit, f.id⟩ [] o.op = some r ∧ (∀ b, b ∈ r.ob → b = true) ∧ r.wr = [] ∧ f.new = r.new ∧ ent = ⟨[], r.val⟩
    | .sym gs => ∃ r, evOp K ⟨envj, hsub heap F 0 f.cl.testBit, f.id⟩ gs o.op = some r ∧ (gBool K envj gs = true → ∀ b, b ∈ r.ob → b = true) ∧ r.wr = [] ∧ r.new = [] ∧ f.new = [] ∧ ent = ⟨gs, r.val⟩ ∧ o.dst ≠ none

/-- a part of what is known -/
theorem HS.part {ρ : Rho} {h h' : Heap} {n n' : Ids} {w : World} (hs : HS w0 Wr ρ h n w) (hn : ∀ i, Wr.ids i → n' i) (hl : ∀ id b, look h' id = some b → look h id = some b ∧ n' id ∧ b.stb n' ρ) : HS w0 Wr ρ h' n' w where
  one := hs.one
  ok id b hb := by obtain ⟨h1, h2, h3⟩ := hl id b hb; exact ⟨h2, (hs.ok id b h1).2.1, h3⟩
  sep i b j c hi hj := hs.sep i b j c (hl i b hi).1 (hl j c hj).1
  wr i b x hi := hs.wr i b x (hl i b hi).1
  frame := hs.frame
  os := hs.os
  tape := hs.tape
  output := hs.output
  size := hs.size
  ag := hs.ag
  inn := hn

variable {n0 : Ids} {heap : Heap} {envB envF : List (Nat × Ent)} {F : List Fact} {ρ : Rho} {E : Nat → Bool} {a : Act} {w : World} {lo hi : Nat} {full : List Oper} {j : Nat} {o : Oper} {f : Fact} {envj : List (Nat × Ent)} {ent : Ent}

theorem FInv.sat (hI : FInv K w0 Wr n0 heap envB envF F ρ E a w) (hO : OrdF F lo hi) (hn0 : ∀ i, n0 i → i < lo) (hB : ∀ t e, (t, e) ∈ envB → e.gs = []) (D : OpD K full heap envB envF F j o f envj ent) (hf : F[j]? = some f) (hE : E j = false) (hcl : ∀ i, f.cl.testBit i = true → E i = true) :
    Sat K w0 Wr ρ (idsOf n0 F f.cl.testBit) ⟨envj, hsub heap F 0 f.cl.testBit, f.id⟩ a w where
  size := hI.size
  defers := hI.defers
  env t e he := by
    rcases D.sub t e he with ⟨h2, h7⟩ | ⟨h1, ⟨m, g, h4, h5, h6⟩, h3⟩
    · obtain ⟨g1, g2⟩ := hI.base t e h2 fun m g hm hd => by
        rcases h7 m g hm hd with rfl | h8
        · exact hE
        · cases hEm : E m with
          | false => rfl
          | true => rw [hI.cl m g hm hEm j h8] at hE; cases hE
      rw [hB t e h2]
      exact ⟨fun _ => ⟨g1, g2.mono fun _ => .inl⟩, fun h => by simp [gBool] at h⟩
    · rw [h3]
      obtain ⟨g1, g2⟩ := hI.fact m g t e h4 (hcl m h6) h5 h1
      refine ⟨fun hg => ⟨(g1 hg).1, (g1 hg).2.mono fun i => idsOf_mono fun q hq => ?_⟩, g2⟩
      simp only [cl1, Bool.or_eq_true, beq_iff_eq] at hq
      rcases hq with rfl | hq
      · exact h6
      · exact D.trans m g h4 h6 q hq
  hs := by
    refine hI.hs.part (fun i hi => .inl (hI.inn i hi)) fun id b hl => ?_
    have hh : ∀ id b, look heap id = some b → id < lo := fun id b h => hn0 id (hI.hb id b h).1
    rw [look_hsub hO hh] at hl ⊢
    rcases hl with hl | ⟨m, g, h1, h2, h3, h4⟩
    · obtain ⟨g1, g2⟩ := hI.hb id b hl
      exact ⟨.inl hl, .inl g1, Blk.stb_move g2 (Agree.refl _ _) fun _ => .inl⟩
    · simp only [Nat.zero_add] at h2
      have hlt : id - g.id < g.new.length := by
        rcases Nat.lt_or_ge (id - g.id) g.new.length with h | h
        · exact h
        · rw [List.getElem?_eq_none h] at h4; simp at h4
      refine ⟨.inr ⟨m, g, h1, by simpa using hcl m h2, h3, h4⟩, .inr ⟨m, g, h1, h2, h3, by omega⟩, ?_⟩
      refine Blk.stb_move (hI.bstb m g _ b h1 (hcl m h2) h4) (Agree.refl _ _) fun i => idsOf_mono fun q hq => ?_
      simp only [cl1, Bool.or_eq_true, beq_iff_eq] at hq
      rcases hq with rfl | hq
      · exact h2
      · exact D.trans m g h1 h2 q hq
  lt i hi' := by
    rcases hi' with hi' | ⟨m, g, h1, h2, h3, h4⟩
    · have := hn0 i hi'
      have := (OrdF.get hO hf).1
      show i < f.id
      omega
    · have := OrdF.apart hO h1 hf (D.bits m h2)
      show i < f.id
      omega


/-- E, and j -/
def add1 (E : Nat → Bool) (j : Nat) : Nat → Bool := fun i => i == j || E i

theorem add1_old {E : Nat → Bool} {j i : Nat} (h : E i = true) : add1 E j i = true := by simp [add1, h]
theorem add1_new {E : Nat → Bool} {j : Nat} : add1 E j j = true := by simp [add1]
theorem add1_cases {E : Nat → Bool} {j i : Nat} (h : add1 E j i = true) : i = j ∨ E i = true := by simpa [add1] using h

/-- the invariant behind one more operation that has made no block -/
theorem FInv.step (hI : FInv K w0 Wr n0 heap envB envF F ρ E a w) (hO : OrdF F lo hi) (hn0 : ∀ i, n0 i → i < lo) (hE : E j = false)
    (D : OpD K full heap envB envF F j o f envj ent) (hf : F[j]? = some f) (hcl : ∀ i, f.cl.testBit i = true → E i = true)
    (hFd : ∀ m g t, F[m]? = some g → m ≠ j → o.dst = some t → g.dst ≠ some t)
    {ρ' : Rho} {v : Value} {w' : World} (hb : RowKit.Below w.heap.size w w') (ha : Agree (idsOf n0 F E) ρ ρ')
    (hv : (gBool K envF ent.gs = true → v = ent.v.den ρ' ∧ StbX (idsOf n0 F (cl1 f j)) ρ' ent.v) ∧ (gBool K envF ent.gs = false → v = undef))
    (hone : ∀ i, (ρ' i).oneCell' = true)
    (hnew : ∀ (q : Nat) (b : Blk), f.new[q]? = some b → b.ok w' (ρ' (f.id + q)) ρ' ∧ b.stb (idsOf n0 F (cl1 f j)) ρ')
    (hfresh : ∀ i x, f.id ≤ i → i < f.id + f.new.length → blkOf (ρ' i) = some x → w.heap.size ≤ x ∨ ∃ q b k c, i = f.id + q ∧ f.new[q]? = some b ∧ b.own = false ∧ look (hsub heap F 0 E) k = some c ∧ c.own = false ∧ blkOf (ρ k) = some x)
    (hsep : ∀ (p q : Nat) (b c : Blk), f.new[p]? = some b → f.new[q]? = some c → p ≠ q → b.own = true → ∀ x, blkOf (ρ' (f.id + p)) = some x → blkOf (ρ' (f.id + q)) ≠ some x) :
    FInv K w0 Wr n0 heap envB envF F ρ' (add1 E j) (a.put o.dst v) w' := by
  have hh : ∀ id b, look heap id = some b → id < lo := fun id b h => hn0 id (hI.hb id b h).1
  have hsub1 : ∀ m g, F[m]? = some g → E m = true → ∀ i, idsOf n0 F (cl1 g m) i → idsOf n0 F E i := fun m g hg hm i => idsOf_mono fun q hq => by
    simp only [cl1, Bool.or_eq_true, beq_iff_eq] at hq
    rcases hq with rfl | hq
    · exact hm
    · exact hI.cl m g hg hm q hq
  have htm : ∀ t, o.dst ≠ some t → (a.put o.dst v).tmps[t]? = a.tmps[t]? := fun t ht => by
    cases hd : o.dst with
    | none => rfl
    | some u =>
      simp only [Act.put]
      rw [Array.getElem?_setIfInBounds_ne (by rw [hd] at ht; simpa using ht)]
  have hag0 : Agree n0 ρ ρ' := ha.mono fun _ => .inl
  have hlen : ∀ {g : Fact} {id : Nat} {b : Blk}, g.new[id - g.id]? = some b → id - g.id < g.new.length := fun {g id b} h => by
    rcases Nat.lt_or_ge (id - g.id) g.new.length with h' | h'
    · exact h'
    · rw [List.getElem?_eq_none h'] at h; simp at h
  have hlk : ∀ id b, look (hsub heap F 0 (add1 E j)) id = some b → look (hsub heap F 0 E) id = some b ∨ (f.id ≤ id ∧ f.new[id - f.id]? = some b) := fun id b hl => by
    rw [look_hsub hO hh] at hl
    rw [look_hsub hO hh]
    rcases hl with hl | ⟨m, g, h1, h2, h3, h4⟩
    · exact .inl (.inl hl)
    · simp only [Nat.zero_add] at h2
      rcases add1_cases h2 with rfl | h2
      · rw [hf] at h1; simp only [Option.some.injEq] at h1; subst h1; exact .inr ⟨h3, h4⟩
      · exact .inl (.inr ⟨m, g, h1, by simpa using h2, h3, h4⟩)
  have hold := hI.hs.below hb
  have holdA : ∀ id b, look (hsub heap F 0 E) id = some b → ρ' id = ρ id := fun id b hl => ha id (hI.hs.ok id b hl).1
  have hblk : ∀ id b, look (hsub heap F 0 E) id = some b → ∀ x, blkOf (ρ id) = some x → x < w.heap.size := fun id b hl x hx => Blk.block (hI.hs.ok id b hl).2.1 hx
  exact {
    size := by cases hd : o.dst <;> simp [Act.put, hI.size]
    defers := by rw [put_defers]; exact hI.defers
    base := fun t e he hno => by
      obtain ⟨h1, h2⟩ := hI.base t e he fun m g hm hd => by
        have := hno m g hm hd
        cases hEm : E m with
        | false => rfl
        | true => rw [add1_old hEm] at this; cases this
      rw [htm t fun h => by
        have := hno j f hf (by rw [D.dst]; exact h)
        rw [add1_new] at this; cases this]
      exact ⟨by rw [h2 ρ' hag0]; exact h1, h2.move hag0⟩
    fact := fun m g t e hg hm hd he => by
      rcases add1_cases hm with rfl | hm
      · rw [hf] at hg
        simp only [Option.some.injEq] at hg
        subst hg
        rw [D.dst] at hd
        obtain ⟨g1, g2, g3, g4⟩ := D.entry t hd
        have hee := g3 e he
        subst hee
        have htt : (a.put o.dst v).tmps[t]? = some v := by
          rw [hd]
          simp only [Act.put]
          rw [Array.getElem?_setIfInBounds_self_of_lt (by rw [hI.size]; exact g1)]
        rw [htt]
        exact ⟨fun hg => ⟨by rw [(hv.1 hg).1], (hv.1 hg).2⟩, fun hg => by rw [hv.2 hg]⟩
      · have hne : m ≠ j := fun e => by rw [e, hE] at hm; cases hm
        obtain ⟨h1, h2⟩ := hI.fact m g t e hg hm hd he
        rw [htm t fun h => hFd m g t hg hne h hd]
        have hag : Agree (idsOf n0 F (cl1 g m)) ρ ρ' := ha.mono (hsub1 m g hg hm)
        exact ⟨fun hgb => ⟨by rw [(h1 hgb).2 ρ' hag]; exact (h1 hgb).1, (h1 hgb).2.move hag⟩, h2⟩
    hs := {
      one := hone
      ok := fun id b hl => by
        rcases hlk id b hl with h1 | ⟨h1, h2⟩
        · obtain ⟨g1, g2, g3⟩ := hold.ok id b h1
          rw [holdA id b h1]
          exact ⟨idsOf_mono (fun m => add1_old) g1, Blk.ok_move g3 ha g2, Blk.stb_move g3 ha fun i => idsOf_mono fun m => add1_old⟩
        · have hlt := hlen h2
          obtain ⟨g1, g2⟩ := hnew _ b h2
          rw [show f.id + (id - f.id) = id from by omega] at g1
          refine ⟨.inr ⟨j, f, hf, add1_new, h1, by omega⟩, g1, Blk.stb_move g2 (Agree.refl _ _) fun i => idsOf_mono fun q hq => ?_⟩
          simp only [cl1, Bool.or_eq_true, beq_iff_eq] at hq
          rcases hq with rfl | hq
          · exact add1_new
          · exact add1_old (hcl q hq)
      sep := fun i b k c hi hk hik hown x hx => by
        rcases hlk i b hi with h1 | ⟨h1, h2⟩
        · rw [holdA i b h1] at hx
          have hxl := hblk i b h1 x hx
          rcases hlk k c hk with h3 | ⟨h3, h4⟩
          · rw [holdA k c h3]; exact hI.hs.sep i b k c h1 h3 hik hown x hx
          · intro hxk
            have := hlen h4
            rcases hfresh k x h3 (by omega) hxk with hge | ⟨q, b', k', c', _, _, _, g4, g5, g6⟩
            · omega
            · have hne : i ≠ k' := fun e => by subst e; rw [h1] at g4; simp only [Option.some.injEq] at g4; subst g4; rw [g5] at hown; cases hown
              exact hI.hs.sep i b k' c' h1 g4 hne hown x hx g6
        · have hl2 := hlen h2
          have hxg : w.heap.size ≤ x := by
            rcases hfresh i x h1 (by omega) hx with hge | ⟨q, b', k', c', g1, g2, g3, _⟩
            · exact hge
            · have : i - f.id = q := by omega
              rw [this, g2] at h2
              simp only [Option.some.injEq] at h2
              subst h2
              rw [g3] at hown; cases hown
          rcases hlk k c hk with h3 | ⟨h3, h4⟩
          · rw [holdA k c h3]
            intro hxk
            have := hblk k c h3 x hxk
            omega
          · have hl4 := hlen h4
            have := hsep _ _ b c h2 h4 (by omega) hown x (by rw [show f.id + (i - f.id) = i from by omega]; exact hx)
            rw [show f.id + (k - f.id) = k from by omega] at this
            exact this
      wr := fun i b x hi hown hx => by
        rcases hlk i b hi with h1 | ⟨h1, h2⟩
        · rw [holdA i b h1] at hx; exact hI.hs.wr i b x h1 hown hx
        · have := hlen h2
          rcases hfresh i x h1 (by omega) hx with hge | ⟨q, b', k', c', g1, g2, g3, _⟩
          · exact .inl (Nat.le_trans hI.hs.size hge)
          · have : i - f.id = q := by omega
            rw [this, g2] at h2
            simp only [Option.some.injEq] at h2
            subst h2
            rw [g3] at hown; cases hown
      frame := hold.frame
      os := hold.os
      tape := hold.tape
      output := hold.output
      size := hold.size
      ag := hI.hs.ag.trans ha hI.hs.inn
      inn := fun i hi => .inl (hI.inn i hi) }
    bstb := fun m g q b hg hm hb' => by
      rcases add1_cases hm with rfl | hm
      · rw [hf] at hg
        simp only [Option.some.injEq] at hg
        subst hg
        exact (hnew q b hb').2
      · exact Blk.stb_move (hI.bstb m g q b hg hm hb') (ha.mono (hsub1 m g hg hm)) fun _ h => h
    hb := fun id b hl => by
      obtain ⟨h1, h2⟩ := hI.hb id b hl
      exact ⟨h1, Blk.stb_move h2 hag0 fun _ h => h⟩
    cl := fun m g hg hm i hi' => by
      rcases add1_cases hm with rfl | hm
      · rw [hf] at hg
        simp only [Option.some.injEq] at hg
        subst hg
        exact add1_old (hcl i hi')
      · exact add1_old (hI.cl m g hg hm i hi')
    inn := hI.inn }


/-- one operation of the front, in whatever order -/
theorem front_step (hA : K.A = stdA) (hT : TOK P K.T) (hC : COK P K.C) {ops : Array Oper} (hl : ops.toList = full) {Q : Exit → Act → World → Prop}
    (hI : FInv K w0 Wr n0 heap envB envF F ρ E a w) (hO : OrdF F lo hi) (hn0 : ∀ i, n0 i → i < lo) (hB : ∀ t e, (t, e) ∈ envB → e.gs = []) (hE : E j = false)
    (D : OpD K full heap envB envF F j o f envj ent) (hf : F[j]? = some f) (ho : ops[j]? = some o) (hcl : ∀ i, f.cl.testBit i = true → E i = true)
    (hFd : ∀ m g t, F[m]? = some g → m ≠ j → o.dst = some t → g.dst ≠ some t) :
    wpOp P ops Q j (fun a' w' => ∃ ρ', FInv K w0 Wr n0 heap envB envF F ρ' (add1 E j) a' w') a w := by
  have hS := hI.sat hO hn0 hB D hf hE hcl
  have hdis : ∀ i, idsOf n0 F E i → ¬ (f.id ≤ i ∧ i < f.id + f.new.length) := fun i hi' hr => by
    rcases hi' with hi' | ⟨m, g, h1, h2, h3, h4⟩
    · have := hn0 i hi'; have := (OrdF.get hO hf).1; omega
    · have hne : m ≠ j := fun e => by rw [e, hE] at h2; cases h2
      rcases Nat.lt_or_ge m j with h | h
      · have := OrdF.apart hO h1 hf h; omega
      · have := OrdF.apart hO hf h1 (by omega); omega
  -- what a result gives
  have fin : ∀ (r : FR) (v : Value) (w' : World), r.wr = [] → f.new = r.new → Did w0 Wr ρ (hsub heap F 0 f.cl.testBit) (idsOf n0 F f.cl.testBit) f.id w r v w' → ent.v = r.val → gBool K envF ent.gs = true →
      ∃ ρ', FInv K w0 Wr n0 heap envB envF F ρ' (add1 E j) (a.put o.dst v) w' := by
    intro r v w' hwr hnew ⟨ρ1, d1, d2, d3, d4, d5, d6⟩ hev hgt
    let ρ2 : Rho := fun i => if f.id ≤ i ∧ i < f.id + f.new.length then ρ1 i else ρ i
    have e2 : ∀ i, f.id ≤ i → i < f.id + f.new.length → ρ2 i = ρ1 i := fun i h1 h2 => if_pos ⟨h1, h2⟩
    have e3 : ∀ i, ¬ (f.id ≤ i ∧ i < f.id + f.new.length) → ρ2 i = ρ i := fun i h => if_neg h
    have hAjE : ∀ i, idsOf n0 F f.cl.testBit i → idsOf n0 F E i := fun i => idsOf_mono fun m hm => hcl m hm
    have a12 : Agree (addI (idsOf n0 F f.cl.testBit) f.id r.new.length) ρ1 ρ2 := fun i hi' => by
      rcases hi' with hi' | ⟨h1, h2⟩
      · rw [e3 i (hdis i (hAjE i hi'))]; exact (d1 i hi').symm
      · exact e2 i h1 (by rw [hnew]; exact h2)
    have hsubA : ∀ i, addI (idsOf n0 F f.cl.testBit) f.id r.new.length i → idsOf n0 F (cl1 f j) i := fun i hi' => by
      rcases hi' with hi' | ⟨h1, h2⟩
      · exact idsOf_mono (fun m hm => by simp [cl1, hm]) hi'
      · exact .inr ⟨j, f, hf, by simp [cl1], h1, by rw [hnew]; exact h2⟩
    rw [hwr] at d4
    have d4' : HS w0 Wr ρ1 (addH (hsub heap F 0 f.cl.testBit) f.id r.new) (addI (idsOf n0 F f.cl.testBit) f.id r.new.length) w' := d4
    have lk : ∀ (q : Nat) (b : Blk), f.new[q]? = some b → look (addH (hsub heap F 0 f.cl.testBit) f.id r.new) (f.id + q) = some b := fun q b hq => by
      rw [hnew] at hq
      have hlt : q < r.new.length := by
        rcases Nat.lt_or_ge q r.new.length with h | h
        · exact h
        · rw [List.getElem?_eq_none h] at hq; simp at hq
      rw [look_addH, if_pos ⟨by omega, by omega⟩, show f.id + q - f.id = q from by omega]
      exact hq
    have hq : ∀ (q : Nat) (b : Blk), f.new[q]? = some b → q < f.new.length := fun q b hq => by
      rcases Nat.lt_or_ge q f.new.length with h | h
      · exact h
      · rw [List.getElem?_eq_none h] at hq; simp at hq
    refine ⟨ρ2, hI.step hO hn0 hE D hf hcl hFd (ρ' := ρ2) (d5 hwr) (fun i hi' => e3 i (hdis i hi')) ⟨fun _ => ?_, (fun h => by rw [hgt] at h; cases h)⟩ (fun i => ?_) (fun q b hb => ?_) (fun i x h1 h2 hx => ?_) (fun p q b c hp hq' hpq hown x hx => ?_)⟩
    · rw [hev]
      exact ⟨by rw [d3 ρ2 a12]; exact d2, StbX.mono (StbX.move d3 a12) hsubA⟩
    · by_cases h : f.id ≤ i ∧ i < f.id + f.new.length
      · rw [e2 i h.1 h.2]; exact d4'.one i
      · rw [e3 i h]; exact hI.hs.one i
    · obtain ⟨g1, g2, g3⟩ := d4'.ok _ _ (lk q b hb)
      have := hq q b hb
      rw [e2 _ (by omega) (by omega)]
      exact ⟨Blk.ok_move g3 a12 g2, Blk.stb_move g3 a12 hsubA⟩
    · rw [e2 i h1 h2] at hx
      rcases d6 hwr i x h1 (by rw [← hnew]; exact h2) hx with hge | ⟨q, b, k, c, g1, g2, g3, g4, g5, g6⟩
      · exact .inl hge
      · refine .inr ⟨q, b, k, c, g1, by rw [hnew]; exact g2, g3, ?_, g5, g6⟩
        have hh : ∀ id b, look heap id = some b → id < lo := fun id b h => hn0 id (hI.hb id b h).1
        rw [look_hsub hO hh] at g4 ⊢
        rcases g4 with g4 | ⟨m', g', u1, u2, u3, u4⟩
        · exact .inl g4
        · exact .inr ⟨m', g', u1, by rw [Nat.zero_add] at u2 ⊢; exact hcl m' u2, u3, u4⟩
    · have h1 := hq p b hp
      have h2 := hq q c hq'
      rw [e2 _ (by omega) (by omega)] at hx ⊢
      exact d4'.sep _ b _ c (lk p b hp) (lk q c hq') (by omega) hown x hx
  have skip : f.new = [] → gBool K envF ent.gs = false → ∃ ρ', FInv K w0 Wr n0 heap envB envF F ρ' (add1 E j) (a.put o.dst undef) w := fun hnew hgf =>
    ⟨ρ, hI.step hO hn0 hE D hf hcl hFd (RowKit.Below.refl _ _) (Agree.refl _ _) ⟨(fun h => by rw [hgf] at h; cases h), fun _ => rfl⟩ hI.hs.one (fun q b hb => by rw [hnew] at hb; simp at hb) (fun i x h1 h2 => by rw [hnew] at h2; simp at h2; omega) (fun p q b c hp => by rw [hnew] at hp; simp at hp)⟩
  unfold wpOp
  simp only [ho]
  have hrun := D.run
  have hgd := fun G hG => guard_sound (G := G) hA hS hl o hG
  split at hrun
  · exact hrun.elim
  · rename_i hG
    have hw := hgd _ hG
    simp only at hw
    rw [hw]
    simp only [Bool.false_eq_true, if_false]
    obtain ⟨h1, h2⟩ := hrun
    refine fin ⟨[], .c (.s .un), [], []⟩ undef w rfl h1 ⟨ρ, Agree.refl _ _, rfl, fun _ _ => rfl, hS.hs.addI0, fun _ => RowKit.Below.refl _ _, fun _ i x g1 g2 => by simp at g2; omega⟩ (by rw [h2]) (by rw [h2]; rfl)
  · rename_i hG
    have hw := hgd _ hG
    simp only at hw
    rw [hw]
    simp only [if_true]
    obtain ⟨r, h1, h2, h3, h4, h5⟩ := hrun
    exact .inl (Res.wp (evOp_sound hA hT hC hS rfl h1 h2) fun v w' hd => fin r v w' h3 h4 hd (by rw [h5]) (by rw [h5]; rfl))
  · rename_i gs hG
    have hw := hgd _ hG
    simp only at hw
    obtain ⟨r, h1, h2, h3, h4, h5, h6, hdst⟩ := hrun
    have hent : ∀ b, gBool K envj gs = b → o.dst ≠ none → gBool K envF ent.gs = b := fun b hb hd => by
      cases hdd : o.dst with
      | none => exact absurd hdd hd
      | some t =>
        have := (D.entry t hdd).2.2.2
        rw [h6] at this ⊢
        rw [← this]; exact hb
    rw [hw]
    -- without a place for the result nothing hangs on the entry
    cases hg : gBool K envj gs with
    | true =>
      simp only [if_true]
      refine .inl (Res.wp (evOp_sound hA hT hC hS hg h1 (h2 hg)) fun v w' hd => ?_)
      exact fin r v w' h3 (by rw [h5, h4]) hd (by rw [h6]) (hent true hg hdst)
    | false =>
      simp only [Bool.false_eq_true, if_false]
      exact skip h5 (hent false hg hdst)


/-! ## the orders -/

theorem binds_cases (e : Edge) : Region.binds .any e = (match e.ground with | .textOnly _ => false | .gcOnly _ => false | _ => true) := by
  unfold Region.binds
  cases e.ground <;> rfl

theorem clE_bits : ∀ {l : List Edge} {cl : Nat}, clE F l = some cl →
    (∀ e, e ∈ l → Region.binds .any e = true → ∃ g, F[e.on]? = some g ∧ cl.testBit e.on = true ∧ ∀ i, g.cl.testBit i = true → cl.testBit i = true) ∧
    (∀ i, cl.testBit i = true → ∃ e g, e ∈ l ∧ Region.binds .any e = true ∧ F[e.on]? = some g ∧ (i = e.on ∨ g.cl.testBit i = true))
  | [], cl, h => by
    simp only [clE, Option.some.injEq] at h
    subst h
    exact ⟨fun e he => by simp at he, fun i hi => by simp at hi⟩
  | e :: r, cl, h => by
    simp only [clE] at h
    split at h
    · simp at h
    · rename_i m hm
      obtain ⟨h1, h2⟩ := clE_bits hm
      have keep : Region.binds .any e = false → cl = m → _ := fun hb hcm => by
        subst hcm
        exact (⟨fun e' he' hb' => by
          simp only [List.mem_cons] at he'
          rcases he' with rfl | he'
          · rw [hb] at hb'; cases hb'
          · exact h1 e' he' hb', fun i hi => by
          obtain ⟨e', g, g1, g2⟩ := h2 i hi
          exact ⟨e', g, List.mem_cons_of_mem _ g1, g2⟩⟩ :
          (∀ e', e' ∈ e :: r → Region.binds .any e' = true → ∃ g, F[e'.on]? = some g ∧ cl.testBit e'.on = true ∧ ∀ i, g.cl.testBit i = true → cl.testBit i = true) ∧
          (∀ i, cl.testBit i = true → ∃ e' g, e' ∈ e :: r ∧ Region.binds .any e' = true ∧ F[e'.on]? = some g ∧ (i = e'.on ∨ g.cl.testBit i = true)))
      split at h
      · rename_i hgr
        simp only [Option.some.injEq] at h
        exact keep (by rw [binds_cases, hgr]) h.symm
      · rename_i hgr
        simp only [Option.some.injEq] at h
        exact keep (by rw [binds_cases, hgr]) h.symm
      · rename_i hg1 hg2
        split at h
        · rename_i f hf
          simp only [Option.some.injEq] at h
          subst h
          have hb : Region.binds .any e = true := by
            rw [binds_cases]
            split
            · rename_i d hd; exact absurd hd (hg1 d)
            · rename_i d hd; exact absurd hd (hg2 d)
            · rfl
          refine ⟨fun e' he' hb' => ?_, fun i hi => ?_⟩
          · simp only [List.mem_cons] at he'
            rcases he' with rfl | he'
            · exact ⟨f, hf, by simp [Nat.testBit_or, Nat.testBit_two_pow_self], fun i hi => by simp [Nat.testBit_or, hi]⟩
            · obtain ⟨g, g1, g2, g3⟩ := h1 e' he' hb'
              exact ⟨g, g1, by simp [Nat.testBit_or, g2], fun i hi => by simp [Nat.testBit_or, g3 i hi]⟩
          · simp only [Nat.testBit_or, Bool.or_eq_true] at hi
            rcases hi with (hi | hi) | hi
            · obtain ⟨e', g, g1, g2⟩ := h2 i hi
              exact ⟨e', g, List.mem_cons_of_mem _ g1, g2⟩
            · refine ⟨e, f, List.mem_cons_self .., hb, hf, .inl ?_⟩
              rw [Nat.testBit_two_pow] at hi
              exact (by simpa using hi : e.on = i).symm
            · exact ⟨e, f, List.mem_cons_self .., hb, hf, .inr hi⟩
        · simp at h


/-- bits speak of earlier operations -/
def BitsOK (F : List Fact) : Prop := ∀ (m : Nat) (f : Fact), F[m]? = some f → ∀ i, f.cl.testBit i = true → i < m

theorem get_push {F : List Fact} {f g : Fact} {m : Nat} (h : (F ++ [f])[m]? = some g) : F[m]? = some g ∨ (m = F.length ∧ g = f) := by
  rcases Nat.lt_or_ge m F.length with hlt | hge
  · rw [List.getElem?_append_left hlt] at h; exact .inl h
  · rw [List.getElem?_append_right hge] at h
    have : m - F.length = 0 := by
      rcases Nat.eq_zero_or_pos (m - F.length) with h0 | h0
      · exact h0
      · rw [List.getElem?_eq_none (by simp; omega)] at h; simp at h
    rw [this] at h
    simp only [List.getElem?_cons_zero, Option.some.injEq] at h
    exact .inr ⟨by omega, h.symm⟩

theorem get_old {F : List Fact} {f g : Fact} {m : Nat} (h : F[m]? = some g) : (F ++ [f])[m]? = some g := by
  have : m < F.length := by
    rcases Nat.lt_or_ge m F.length with hlt | hge
    · exact hlt
    · rw [List.getElem?_eq_none hge] at h; simp at h
  rw [List.getElem?_append_left this]; exact h

theorem get_lt {α : Type} {F : List α} {g : α} {m : Nat} (h : F[m]? = some g) : m < F.length := by
  rcases Nat.lt_or_ge m F.length with hlt | hge
  · exact hlt
  · rw [List.getElem?_eq_none hge] at h; simp at h

theorem clE_lt {l : List Edge} {cl : Nat} (hb : BitsOK F) (h : clE F l = some cl) : ∀ i, cl.testBit i = true → i < F.length := fun i hi => by
  obtain ⟨e, g, _, _, h3, h4⟩ := (clE_bits h).2 i hi
  have := get_lt h3
  rcases h4 with rfl | h4
  · exact this
  · have := hb _ _ h3 i h4; omega

theorem BitsOK.push {l : List Edge} {cl : Nat} (hb : BitsOK F) (h : clE F l = some cl) (d : Option Nat) (q : Nat) (n : List Blk) (rd : List Nat) : BitsOK (F ++ [⟨d, cl, q, n, rd⟩]) := fun m f hf i hi => by
  rcases get_push hf with hf | ⟨rfl, rfl⟩
  · exact hb m f hf i hi
  · exact clE_lt hb h i hi

theorem full_bits {cl j : Nat} (h : ((cl ||| 2 ^ j) + 1 == 2 ^ (j + 1)) = true) {i : Nat} (hi : i < j) : cl.testBit i = true := by
  simp only [beq_iff_eq] at h
  have h1 : (cl ||| 2 ^ j) = 2 ^ (j + 1) - 1 := by omega
  have h2 := congrArg (fun x => x.testBit i) h1
  simp only [Nat.testBit_or, Nat.testBit_two_pow_sub_one, Nat.testBit_two_pow] at h2
  have h3 : decide (j = i) = false := by simp; omega
  rw [h3, Bool.or_false] at h2
  rw [h2]; simp; omega

/-- the tail: one behind the other -/
theorem tail_any {ops : Array Oper} {Q : Exit → Act → World → Prop} : ∀ (tl : List Oper) (F : List Fact) (fuel : Nat) (listed : Array Bool) (a : Act) (w : World), tl.length ≤ fuel → BitsOK F → tailOK F tl F.length = true →
    (∀ i, tl[i]? = ops[F.length + i]?) → F.length + tl.length = ops.size → listed.size = ops.size → (∀ i, i < ops.size → (listed.getD i true = true ↔ i < F.length)) →
    wpList P ops Q tl a w → wpAny P .any ops Q fuel listed a w
  | [], F, fuel, listed, a, w, _, hb, ht, hops, hlen, hsz, hli, h => by
    simp only [List.length_nil, Nat.add_zero] at hlen
    have hno : Region.ready .any ops listed = [] := by
      rw [List.eq_nil_iff_forall_not_mem]
      intro i hi
      obtain ⟨h1, o, ho, _⟩ := mem_ready.1 hi
      have : i < ops.size := by
        rcases Nat.lt_or_ge i ops.size with h | h
        · exact h
        · rw [Array.getElem?_eq_none h] at ho; simp at ho
      rw [(hli i this).2 (by omega)] at h1
      cases h1
    cases fuel with
    | zero => exact ⟨hno, h⟩
    | succ fuel => exact ⟨fun _ => h, fun i hi => by rw [hno] at hi; simp at hi⟩
  | o :: rest, F, 0, listed, a, w, hfu, hb, ht, hops, hlen, hsz, hli, h => by simp at hfu
  | o :: rest, F, fuel + 1, listed, a, w, hfu, hb, ht, hops, hlen, hsz, hli, h => by
    simp only [tailOK] at ht
    split at ht
    · rename_i cl hcl
      simp only [Bool.and_eq_true] at ht
      obtain ⟨ht1, ht2⟩ := ht
      have ho : ops[F.length]? = some o := by have := hops 0; simpa using this.symm
      have hlt : F.length < ops.size := by simp only [List.length_cons] at hlen; omega
      have hmem : F.length ∈ Region.ready .any ops listed := by
        refine mem_ready.2 ⟨?_, o, ho, fun e he hbe => ?_⟩
        · cases hg : listed.getD F.length true with
          | false => rfl
          | true => have := (hli _ hlt).1 hg; omega
        · obtain ⟨g, hg, _⟩ := (clE_bits hcl).1 e (by simpa using he) hbe
          have h1 := get_lt hg
          have h2 := (hli e.on (by omega)).2 h1
          have h3 : e.on < listed.size := by omega
          simp only [Array.getD, h3, dif_pos] at h2 ⊢
          exact h2
      have honly : ∀ i, i ∈ Region.ready .any ops listed → i = F.length := fun i hi => by
        obtain ⟨h1, o', ho', hall⟩ := mem_ready.1 hi
        have hilt : i < ops.size := by
          rcases Nat.lt_or_ge i ops.size with h | h
          · exact h
          · rw [Array.getElem?_eq_none h] at ho'; simp at ho'
        have hge : F.length ≤ i := by
          rcases Nat.lt_or_ge i F.length with h | h
          · rw [(hli i hilt).2 h] at h1; cases h1
          · exact h
        rcases Nat.eq_or_lt_of_le hge with h | h
        · exact h.symm
        · exfalso
          -- the operation behind it needs it
          have key : ∀ (tl : List Oper) (G : List Fact), BitsOK G → F.length < G.length → tailOK G tl G.length = true → ∀ (m : Nat) (o'' : Oper), tl[m]? = some o'' → (∀ e, e ∈ o''.after → Region.binds .any e = true → listed.getD e.on false = true) → False := by
            intro tl
            induction tl with
            | nil => intro G _ _ _ m o'' hm; simp at hm
            | cons x r ih =>
              intro G hG hlG htG m o'' hm hall
              simp only [tailOK] at htG
              split at htG
              · rename_i cl' hcl'
                simp only [Bool.and_eq_true] at htG
                cases m with
                | zero =>
                  simp only [List.getElem?_cons_zero, Option.some.injEq] at hm
                  subst hm
                  have hbit := full_bits htG.1 hlG
                  obtain ⟨e, g, g1, g2, g3, g4⟩ := (clE_bits hcl').2 _ hbit
                  have hl := hall e (by simpa using g1) g2
                  have hl' : e.on < F.length := by
                    have h3 : e.on < listed.size := by
                      rcases Nat.lt_or_ge e.on listed.size with h | h
                      · exact h
                      · simp [Array.getD, show ¬ e.on < listed.size by omega] at hl
                    refine (hli e.on (by omega)).1 ?_
                    simp only [Array.getD, h3, dif_pos] at hl ⊢
                    exact hl
                  rcases g4 with g4 | g4
                  · omega
                  · have := hG _ _ g3 _ g4; omega
                | succ m =>
                  exact ih (G ++ [⟨none, cl', 0, [], []⟩]) (hG.push hcl' _ _ _ _) (by simp; omega) (by simpa using htG.2) m o'' (by simpa using hm) hall
              · simp at htG
          have hm : rest[i - F.length - 1]? = some o' := by
            have := hops (i - F.length)
            rw [show F.length + (i - F.length) = i from by omega, ho', show i - F.length = (i - F.length - 1) + 1 from by omega, List.getElem?_cons_succ] at this
            exact this
          exact key rest (F ++ [⟨none, cl, 0, [], []⟩]) (hb.push hcl _ _ _ _) (by simp) (by simpa using ht2) _ o' hm hall
      refine ⟨fun h0 => by rw [h0] at hmem; simp at hmem, fun i hi => ?_⟩
      rw [honly i hi]
      have step : ∀ a w, wpList P ops Q rest a w → wpAny P .any ops Q fuel (listed.setIfInBounds F.length true) a w := fun a' w' h' =>
        tail_any rest (F ++ [⟨none, cl, 0, [], []⟩]) fuel _ a' w' (by simp only [List.length_cons] at hfu; omega) (hb.push hcl _ _ _ _) (by simpa using ht2)
          (fun i => by
            have := hops (i + 1)
            rw [List.getElem?_cons_succ] at this
            rw [this]; congr 1; simp; omega)
          (by simp only [List.length_cons] at hlen; simp; omega) (by simpa using hsz)
          (fun i hi => by
            have hi' : i < listed.size := by omega
            by_cases he : i = F.length
            · subst he
              simp [Array.getD, hi']
            · rw [getD_set_ne true (fun e => he e.symm), hli i hi]
              simp only [List.length_append, List.length_cons, List.length_nil]
              omega) h'
      unfold wpOp
      simp only [ho]
      simp only [wpList] at h
      split at h
      · rename_i hw
        rw [if_pos hw]
        exact h.imp (Oper.wp_mono fun a w => step a w) id
      · rename_i hw
        rw [if_neg hw]
        exact step _ _ h
    · simp at ht

end
end Go.Eng
