/- The engine, part P: contracts of functions that read blocks and make new ones. -/
import Derived.Test.YtlcplkldielemaaEngO
set_option linter.all false
set_option exponentiation.threshold 3000
namespace Go.Eng

/-- what a parameter is: a plain value, a pointer that is read, a slice that is read -/
inductive PD where | v | p | s (k : RK)

/-- stands for the same, whatever the handles -/
def Sc.flat : Sc → Bool
  | .lit _ _ => true | .int _ _ => true | .tt _ => true | .bool _ => true | .str _ => true
  | .nilp => true | .nils => true | .nilm => true
  | _ => false

def flatL : List At → Bool
  | [] => true
  | .s x :: r => x.flat && flatL r
  | _ :: r => flatL r

def CV.flat : CV → Bool
  | .s x => x.flat
  | .g l => flatL l

def Blk.flat : Blk → Bool
  | .fix _ l => flatL l
  | .vec _ _ _ => true

def Sc.norm : Sc → Sc
  | .lit k n => .int k n
  | .tt b => .bool b
  | x => x

def normL : List At → List At
  | [] => []
  | .s x :: r => .s x.norm :: normL r
  | a :: r => a :: normL r

def CV.norm : CV → CV
  | .s x => .s x.norm
  | .g l => .g (normL l)

structure Canon where
  args : List CV
  heap : List Blk
  sc : List Sc
  ob : List Bool

def canon (A : Alg) (h : Heap) : List PD → List CV → Nat → Option Canon
  | [], [], _ => some ⟨[], [], [], []⟩
  | d :: ds, x :: xs, j => match d with
    | .v => if x.flat then match canon A h ds xs j with
        | some c => some ⟨x.norm :: c.args, c.heap, c.sc, c.ob⟩
        | none => none else none
    | .p => match x with
      | .s (.hp id off) => match look h id with
        | some (.fix _ l) => match dropA 400 off l with
          | some l' => if flatL l' then match canon A h ds xs (j + 1) with
            | some c => some ⟨.s (.hp j 0) :: c.args, .fix false l' :: c.heap, .hp id off :: c.sc, c.ob⟩
            | none => none else none
          | none => none
        | _ => none
      | _ => none
    | .s k => match x with
      | .s .nils => match canon A h ds xs (j + 1) with
        | some c => some ⟨.s (.hs j) :: c.args, .vec false k [] :: c.heap, .nils :: c.sc, c.ob⟩
        | none => none
      | .s (.hs id) => match look h id with
        | some (.vec _ k' l) => match canon A h ds xs (j + 1) with
          | some c => some ⟨.s (.hs j) :: c.args, .vec false k' l :: c.heap, .hs id :: c.sc, c.ob⟩
          | none => none
        | _ => none
      | .s (.hw id z lo hi) => match look h id with
        | some (.vec _ k' l) => if z == k'.esz then match canon A h ds xs (j + 1) with
          | some c => some ⟨.s (.hs j) :: c.args, .vec false k' (A.sub l lo hi) :: c.heap, .hw id z lo hi :: c.sc, A.cmp .leq 0 lo :: A.cmp .leq lo hi :: A.cmp .leq hi (A.len l) :: c.ob⟩
          | none => none else none
        | _ => none
      | _ => none
  | _, _, _ => none

def heapOf : List Blk → Nat → Heap
  | [], _ => []
  | b :: r, j => (j, b) :: heapOf r (j + 1)

/-- a result's scalar, told by the caller's handles -/
def renS (A : Alg) (L m q : Nat) (σ : List Sc) : Sc → Option (List Bool × Sc)
  | .hp j off => if q ≤ j then (if j < q + L then some ([], .hp (m + (j - q)) off) else none) else match σ[j]? with
    | some (.hp id o) => some ([], .hp id (o + off))
    | _ => none
  | .hs j => if q ≤ j then (if j < q + L then some ([], .hs (m + (j - q))) else none) else match σ[j]? with
    | some x => some ([], x)
    | none => none
  | .hw j z lo hi => if q ≤ j then (if j < q + L then some ([], .hw (m + (j - q)) z lo hi) else none) else match σ[j]? with
    | some (.hs id) => some ([], .hw id z lo hi)
    | some (.hw id z' lo' _) => if z == z' && lo == 0 then some ([A.cmp .leq 0 hi], .hw id z lo' (A.iadd lo' hi)) else none
    | some .nils => some ([A.cmp .leq hi lo, A.cmp .leq 0 lo], .nils)
    | _ => none
  | x => if x.flat then some ([], x) else none

def renL (A : Alg) (L m q : Nat) (σ : List Sc) : List At → Option (List Bool × List At)
  | [] => some ([], [])
  | .s x :: r => match renS A L m q σ x, renL A L m q σ r with
    | some (o, y), some (p, s) => some (o ++ p, .s y :: s)
    | _, _ => none
  | a :: r => match renL A L m q σ r with
    | some (p, s) => some (p, a :: s)
    | none => none

def renV (A : Alg) (L m q : Nat) (σ : List Sc) : CV → Option (List Bool × CV)
  | .s x => match renS A L m q σ x with
    | some (o, y) => some (o, .s y)
    | none => none
  | .g l => match renL A L m q σ l with
    | some (o, y) => some (o, .g y)
    | none => none

def renVs (A : Alg) (L m q : Nat) (σ : List Sc) : List CV → Option (List Bool × List CV)
  | [] => some ([], [])
  | x :: r => match renV A L m q σ x, renVs A L m q σ r with
    | some (o, y), some (p, s) => some (o ++ p, y :: s)
    | _, _ => none

def renX (A : Alg) (L m q : Nat) (σ : List Sc) : XV → Option (List Bool × XV)
  | .c x => match renV A L m q σ x with
    | some (o, y) => some (o, .c y)
    | none => none
  | .t l => match renVs A L m q σ l with
    | some (o, y) => some (o, .t y)
    | none => none

/-- what a function tells: obligations, its value (handles below q: its arguments'; from q on: the new blocks), new blocks -/
structure LR where
  ob : List Bool
  val : XV
  new : List Blk

def okNew : List Blk → Bool
  | [] => true
  | b :: r => (match b with
    | .fix true _ => true
    | .vec true _ _ => true
    | _ => false) && b.flat && okNew r

def heapSem (ds : List PD) (A : Alg) (g : List CV → List Blk → Option LR) : Sem' := fun m xs h =>
  match canon A h ds xs 0 with
  | some c => match g c.args c.heap with
    | some r => if okNew r.new then match renX A r.new.length m c.sc.length c.sc r.val with
      | some (o, v) => some ⟨c.ob ++ (r.ob ++ o), v, r.new, []⟩
      | none => none else none
    | none => none
  | none => none

/-! ## It is so -/
theorem Sc.flat_den {x : Sc} (h : x.flat = true) (ρ ρ' : Rho) : x.den ρ' = x.den ρ := by cases x <;> first | rfl | cases h

theorem flatL_flats : ∀ {l : List At}, flatL l = true → ∀ ρ ρ', flats ρ' l = flats ρ l
  | [], _, _, _ => rfl
  | a :: r, h, ρ, ρ' => by
    have hc : a.cells ρ' = a.cells ρ ∧ flatL r = true := by
      cases a with
      | s x => simp only [flatL, Bool.and_eq_true] at h; exact ⟨by simp [At.cells, Sc.flat_den h.1 ρ ρ'], h.2⟩
      | _ => exact ⟨rfl, h⟩
    simp only [flats]
    rw [hc.1, flatL_flats hc.2 ρ ρ']

theorem CV.flat_den {x : CV} (h : x.flat = true) (ρ ρ' : Rho) : x.den ρ' = x.den ρ := by
  cases x with
  | s x => exact Sc.flat_den h ρ ρ'
  | g l => simp only [CV.den]; rw [flatL_flats h ρ ρ']

theorem Sc.norm_den (x : Sc) (ρ : Rho) : x.norm.den ρ = x.den ρ := by cases x <;> rfl

theorem normL_flats (ρ : Rho) : ∀ l : List At, flats ρ (normL l) = flats ρ l
  | [] => rfl
  | .s x :: r => by simp only [normL, flats, At.cells, Sc.norm_den, normL_flats ρ r]
  | .D _ :: r => by simp only [normL, flats, normL_flats ρ r]
  | .W _ :: r => by simp only [normL, flats, normL_flats ρ r]
  | .R _ :: r => by simp only [normL, flats, normL_flats ρ r]
  | .P _ :: r => by simp only [normL, flats, normL_flats ρ r]

theorem CV.norm_den (x : CV) (ρ : Rho) : x.norm.den ρ = x.den ρ := by
  cases x with
  | s x => exact Sc.norm_den x ρ
  | g l => simp only [CV.norm, CV.den, normL_flats]

theorem Blk.flat_stb {b : Blk} (h : b.flat = true) (n : Ids) (ρ : Rho) : b.stb n ρ := by
  cases b with
  | fix o l => exact fun ρ' _ => flatL_flats h ρ ρ'
  | vec => trivial

theorem Blk.flat_ok {b : Blk} (h : b.flat = true) {w : World} {v : Value} {ρ : Rho} (ρ' : Rho) (hk : b.ok w v ρ) : b.ok w v ρ' :=
  Blk.ok_move (Blk.flat_stb h (fun _ => False) ρ) (fun _ hi => hi.elim) hk

theorem RK.flat_cons (k : RK) (x : k.ty) (l : List k.ty) : k.flat (x :: l) = flats (fun _ => undef) (k.at x) ++ k.flat l := rfl

theorem RK.at_len (k : RK) (x : k.ty) (ρ : Rho) : (flats ρ (k.at x)).length = k.esz := by rw [flats_length, k.at_sizes]

theorem RK.flat_take (k : RK) : ∀ (l : List k.ty) (i : Nat), k.flat (l.take i) = (k.flat l).take (i * k.esz)
  | [], i => by simp [RK.flat]
  | x :: l, 0 => by simp [RK.flat]
  | x :: l, i + 1 => by
    rw [List.take_succ_cons, RK.flat_cons, RK.flat_cons, RK.flat_take k l i, List.take_append, k.at_len, List.take_of_length_le (l := flats _ _) (by rw [k.at_len, Nat.add_mul]; omega)]
    have : (i + 1) * k.esz - k.esz = i * k.esz := by rw [Nat.add_mul]; omega
    rw [this]

theorem RK.flat_drop (k : RK) : ∀ (l : List k.ty) (i : Nat), k.flat (l.drop i) = (k.flat l).drop (i * k.esz)
  | [], i => by simp [RK.flat]
  | x :: l, 0 => by simp [RK.flat]
  | x :: l, i + 1 => by
    rw [List.drop_succ_cons, RK.flat_cons, RK.flat_drop k l i, List.drop_append, k.at_len, List.drop_eq_nil_of_le (as := flats _ _) (by rw [k.at_len, Nat.add_mul]; omega)]
    have : (i + 1) * k.esz - k.esz = i * k.esz := by rw [Nat.add_mul]; omega
    rw [this]; rfl

/-- a caller's scalar that stands for a block -/
def ScOK (n : Ids) (ρ : Rho) : Sc → Prop
  | .hp id _ => n id ∧ ∃ b o, ρ id = .pointer (some ⟨b, o, none⟩)
  | .hw id _ lo hi => n id ∧ ∃ base len cap, ρ id = .slice base len cap ∧ 0 ≤ lo ∧ lo.toNat ≤ cap ∧ lo ≤ hi ∧ ∀ a, base = some a → ∃ b o, a = ⟨b, o, none⟩
  | .hs id => n id
  | .nils => True
  | _ => False

theorem ScOK.stb {n : Ids} {ρ : Rho} {x : Sc} (h : ScOK n ρ x) : StbV n ρ (.s x) := fun ρ' ha => by
  cases x with
  | hp id o => simp only [CV.den, Sc.den]; rw [ha id h.1]
  | hw id z lo hi => simp only [CV.den, Sc.den]; rw [ha id h.1]
  | hs id => simp only [CV.den, Sc.den]; exact ha id h
  | nils => rfl
  | _ => exact h.elim

structure CanonOK (w : World) (ρ : Rho) (n : Ids) (c : Canon) (xs : List CV) (j : Nat) : Prop where
  len : c.heap.length = c.sc.length
  blk : ∀ (i : Nat) (x : Sc) (b : Blk), c.sc[i]? = some x → c.heap[i]? = some b → b.own = false ∧ b.flat = true ∧ b.ok w (x.den ρ) ρ ∧ (x.den ρ).oneCell' = true
  args : ∀ ρ' : Rho, (∀ i x, c.sc[i]? = some x → ρ' (j + i) = x.den ρ) → c.args.map (CV.den ρ') = xs.map (CV.den ρ)
  stb : ∀ v, v ∈ c.args → ∀ ρ', StbV (fun i => j ≤ i ∧ i < j + c.sc.length) ρ' v
  scs : ∀ x, x ∈ c.sc → ScOK n ρ x

theorem CanonOK.cons {w : World} {ρ : Rho} {n : Ids} {c : Canon} {xs : List CV} {j : Nat} (h : CanonOK w ρ n c xs (j + 1)) {y x : Sc} {b : Blk} {ob : List Bool} (hy : ∀ ρ' : Rho, ρ' j = x.den ρ → y.den ρ' = x.den ρ)
    (hst : ∀ ρ' ρ'' : Rho, ρ'' j = ρ' j → y.den ρ'' = y.den ρ') (h1 : b.own = false) (h2 : b.flat = true) (h3 : b.ok w (x.den ρ) ρ) (h4 : (x.den ρ).oneCell' = true) (h6 : ScOK n ρ x) :
    CanonOK w ρ n ⟨.s y :: c.args, b :: c.heap, x :: c.sc, ob⟩ (.s x :: xs) j where
  len := by simp [h.len]
  blk i x' b' hx hb := by
    cases i with
    | zero => simp at hx hb; subst hx hb; exact ⟨h1, h2, h3, h4⟩
    | succ i => exact h.blk i x' b' (by simpa using hx) (by simpa using hb)
  args ρ' hρ := by
    simp only [List.map_cons, CV.den]
    rw [hy ρ' (by simpa using hρ 0 x rfl), h.args ρ' fun i x' hx => by rw [show j + 1 + i = j + (i + 1) from by omega]; exact hρ (i + 1) x' (by simpa using hx)]
  stb v hv ρ' := by
    simp only [List.mem_cons] at hv
    rcases hv with rfl | hv
    · exact fun ρ'' ha => hst ρ' ρ'' (ha j ⟨Nat.le_refl _, by simp⟩)
    · exact (h.stb v hv ρ').mono fun i hi => ⟨by omega, by simp only [List.length_cons]; omega⟩
  scs x' hx := by
    simp only [List.mem_cons] at hx
    rcases hx with rfl | hx
    · exact h6
    · exact h.scs x' hx

theorem canon_sound {A : Alg} (hA : A = stdA) {w0 w : World} {Wr : Base} {ρ : Rho} {h : Heap} {n : Ids} (hs : HS w0 Wr ρ h n w) : ∀ {ds : List PD} {xs : List CV} {j : Nat} {c : Canon},
    canon A h ds xs j = some c → (∀ b, b ∈ c.ob → b = true) → CanonOK w ρ n c xs j
  | [], [], j, c, e, ho => by
    simp only [canon, Option.some.injEq] at e; subst e
    exact ⟨rfl, fun i x b hx => by simp at hx, fun _ _ => rfl, fun v hv => by simp at hv, fun x hx => by simp at hx⟩
  | [], _ :: _, _, _, e, _ => by simp [canon] at e
  | _ :: _, [], _, _, e, _ => by simp [canon] at e
  | d :: ds, x :: xs, j, c, e, ho => by
    cases d with
    | v =>
      simp only [canon] at e
      split at e
      · rename_i hf
        split at e
        · rename_i c' hc
          simp only [Option.some.injEq] at e; subst e
          have ih := canon_sound hA hs hc ho
          exact ⟨ih.len, ih.blk, fun ρ' hρ => by simp only [List.map_cons]; rw [CV.norm_den, CV.flat_den hf ρ ρ', ih.args ρ' hρ], fun v hv ρ' => by
            simp only [List.mem_cons] at hv
            rcases hv with rfl | hv
            · exact fun ρ'' _ => by rw [CV.norm_den, CV.norm_den]; exact CV.flat_den hf _ _
            · exact ih.stb v hv ρ', ih.scs⟩
        · simp at e
      · simp at e
    | p =>
      simp only [canon] at e
      split at e
      · rename_i id off
        split at e
        · rename_i own l hl
          split at e
          · rename_i l' hl'
            split at e
            · rename_i hf
              split at e
              · rename_i c' hc
                simp only [Option.some.injEq] at e; subst e
                have ih := canon_sound hA hs hc ho
                obtain ⟨b, o, h1, h2, h3, h4, h5, h6⟩ := hs.fix hl
                obtain ⟨g1, g2⟩ := dropA_flats ρ _ _ _ _ hl'
                have hd : (Sc.hp id off).den ρ = .pointer (some ⟨b, o + off, none⟩) := hp_den h1
                refine ih.cons (x := .hp id off) (fun ρ' hρ => ?_) (fun ρ' ρ'' he => ?_) rfl hf ⟨b, o + off, hd, h2, ?_, fun e => by cases e⟩ (by rw [hd]; rfl) ⟨h5, b, o, h1⟩
                · rw [hd] at hρ ⊢
                  simp [Sc.den, hρ, addOff, Addr.add_mid]
                · simp only [Sc.den, he]
                · rw [g2]
                  intro q v hv
                  have := h3 (off + q) v (by simpa using hv)
                  rw [← Nat.add_assoc] at this
                  exact this
              · simp at e
            · simp at e
          · simp at e
        · simp at e
      · simp at e
    | s k =>
      simp only [canon] at e
      split at e
      · split at e
        · rename_i c' hc
          simp only [Option.some.injEq] at e; subst e
          have ih := canon_sound hA hs hc ho
          exact ih.cons (x := .nils) (fun ρ' hρ => hρ) (fun ρ' ρ'' he => he) rfl rfl ⟨none, 0, rfl, Nat.le_refl _, rfl, rfl⟩ rfl trivial
        · simp at e
      · rename_i id
        split at e
        · rename_i own k' l hl
          split at e
          · rename_i c' hc
            simp only [Option.some.injEq] at e; subst e
            have ih := canon_sound hA hs hc ho
            obtain ⟨h1, ⟨base, cap, h2, h3, h4⟩, h5⟩ := hs.ok _ _ hl
            refine ih.cons (x := .hs id) (fun ρ' hρ => hρ) (fun ρ' ρ'' he => he) rfl rfl ⟨base, cap, h2, h3, ?_⟩ (hs.one id) h1
            cases base with
            | none => exact h4
            | some a => obtain ⟨b, o, g1, g2, g3, _⟩ := h4; exact ⟨b, o, g1, g2, g3, fun e => by cases e⟩
          · simp at e
        · simp at e
      · rename_i id z lo hi
        split at e
        · rename_i own k' l hl
          split at e
          · rename_i hz
            split at e
            · rename_i c' hc
              simp only [Option.some.injEq] at e; subst e
              simp only [beq_iff_eq] at hz
              subst hz
              simp only [List.forall_mem_cons, hA, stdA, stdCmp, decide_eq_true_eq] at ho
              obtain ⟨g1, g2, g3, ho⟩ := ho
              have ih := canon_sound hA hs hc ho
              obtain ⟨h1, ⟨base, cap, h2, h3, h4⟩, h5⟩ := hs.ok _ _ hl
              have hd : (Sc.hw id k'.esz lo hi).den ρ = .slice (if cap = lo.toNat then base else base.map (·.add (lo.toNat * k'.esz))) (hi.toNat - lo.toNat) (cap - lo.toNat) := by
                simp only [Sc.den, h2]
              have hlen : (stdA.sub l lo hi).length = hi.toNat - lo.toNat := by
                simp only [stdA, List.length_drop, List.length_take]; omega
              refine ih.cons (x := .hw id k'.esz lo hi) (fun ρ' hρ => hρ) (fun ρ' ρ'' he => he) rfl rfl ⟨_, cap - lo.toNat, by rw [hA, hlen]; exact hd, by rw [hA, hlen]; omega, ?_⟩ (by rw [hd]; rfl) ⟨h1, base, _, cap, h2, g1, by omega, g2, ?_⟩
              · rw [hA]
                cases base with
                | none =>
                  obtain ⟨h4, h6⟩ := h4
                  subst h4 h6
                  simp [stdA]
                | some a =>
                  obtain ⟨b, o, q1, q2, q3, _⟩ := h4
                  subst q1
                  by_cases hcl : cap = lo.toNat
                  · rw [if_pos hcl]
                    refine ⟨b, o, rfl, q2, ?_, fun e => by cases e⟩
                    have : stdA.sub l lo hi = [] := List.eq_nil_of_length_eq_zero (by rw [hlen]; omega)
                    rw [this]
                    intro q v hv; simp [RK.flat] at hv
                  · rw [if_neg hcl]
                    refine ⟨b, o + lo.toNat * k'.esz, by simp [Addr.add_mid], q2, ?_, fun e => by cases e⟩
                    have : k'.flat (stdA.sub l lo hi) = ((k'.flat l).take (hi.toNat * k'.esz)).drop (lo.toNat * k'.esz) := by
                      simp only [stdA]; rw [RK.flat_drop, RK.flat_take]
                    rw [this]
                    intro q v hv
                    have := q3 (lo.toNat * k'.esz + q) v (by
                      rw [List.getElem?_drop, List.getElem?_take] at hv
                      split at hv
                      · exact hv
                      · simp at hv)
                    rw [← Nat.add_assoc] at this
                    exact this
              · intro a ha
                subst ha
                obtain ⟨b, o, q1, _⟩ := h4
                exact ⟨b, o, q1⟩
            · simp at e
          · simp at e
        · simp at e
      · simp at e

end Go.Eng
