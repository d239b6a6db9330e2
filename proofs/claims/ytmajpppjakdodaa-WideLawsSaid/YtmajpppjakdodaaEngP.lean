/- The engine, part P: contracts of functions that read and write blocks and make new ones. -/
import Derived.Test.YtmajpppjakdodaaEngO
set_option linter.all false
set_option exponentiation.threshold 3000
namespace Go.Eng

/-- what a parameter is: a plain value, a pointer that is read, one to 32 words, a slice that is read, a pointer, a slice that is written -/
inductive PD where | v | p | pd | s (k : RK) | pw | sw (k : RK)

/-- stands for the same, whatever the handles -/
def Sc.flat : Sc → Bool
  | .lit _ _ => true | .int _ _ => true | .tt _ => true | .bool _ => true | .str _ => true
  | .nilp => true | .nils => true | .nilm => true
  | _ => false

def flatL : List At → Bool
  | [] => true
  | .s x :: r => x.flat && flatL r
  | _ :: r => flatL r

def CV.flat : CV → Bool
  | .s x => x.flat
  | .g l => flatL l

def Blk.flat : Blk → Bool
  | .fix _ l => flatL l
  | .vec _ _ _ => true
  | .gone => false

def Sc.norm : Sc → Sc
  | .lit k n => .int k n
  | .tt b => .bool b
  | x => x

def normL : List At → List At
  | [] => []
  | .s x :: r => .s x.norm :: normL r
  | a :: r => a :: normL r

def CV.norm : CV → CV
  | .s x => .s x.norm
  | .g l => .g (normL l)

/-- arguments as the callee has them: values, blocks, what they are to the caller, obligations, the caller's handles, those that are written (the callee's, the caller's) -/
structure Canon where
  args : List CV
  heap : List Blk
  sc : List Sc
  ob : List Bool
  ids : List Nat
  wi : List (Nat × Nat)

/-- one more argument: of a block that is read -/
def Canon.rd (c : Canon) (y : Sc) (b : Blk) (x : Sc) (ob : List Bool) (id : Nat) : Option Canon :=
  if c.wi.any (fun p => p.2 == id) then none else some ⟨.s y :: c.args, b :: c.heap, x :: c.sc, ob ++ c.ob, id :: c.ids, c.wi⟩

/-- one more argument: of a block that is written -/
def Canon.wrt (c : Canon) (y : Sc) (b : Blk) (x : Sc) (ob : List Bool) (id j : Nat) : Option Canon :=
  if c.ids.contains id then none else some ⟨.s y :: c.args, b :: c.heap, x :: c.sc, ob ++ c.ob, id :: c.ids, (j, id) :: c.wi⟩

def canon (A : Alg) (h : Heap) : List PD → List CV → Nat → Option Canon
  | [], [], _ => some ⟨[], [], [], [], [], []⟩
  | d :: ds, x :: xs, j => match d with
    | .v => if x.flat then match canon A h ds xs j with
        | some c => some ⟨x.norm :: c.args, c.heap, c.sc, c.ob, c.ids, c.wi⟩
        | none => none else none
    | .p => match x with
      | .s (.hp id off) => match look h id with
        | some (.fix _ l) => match dropA 400 off l with
          | some l' => if flatL l' then match canon A h ds xs (j + 1) with
            | some c => c.rd (.hp j 0) (.fix false l') (.hp id off) [] id
            | none => none else none
          | none => none
        | _ => none
      | _ => none
    | .pd => match x with
      | .s (.hp id off) => match look h id with
        | some (.fix _ l) => match atD l off with
          | some d => match canon A h ds xs (j + 1) with
            | some c => c.rd (.hp j 0) (.fix false [.D d]) (.hp id off) [] id
            | none => none
          | none => none
        | _ => none
      | _ => none
    | .s k => match x with
      | .s .nils => match canon A h ds xs (j + 1) with
        | some c => some ⟨.s (.hs j) :: c.args, .vec false k [] :: c.heap, .nils :: c.sc, c.ob, c.ids, c.wi⟩
        | none => none
      | .s (.hs id) => match look h id with
        | some (.vec _ k' l) => match canon A h ds xs (j + 1) with
          | some c => c.rd (.hs j) (.vec false k' l) (.hs id) [] id
          | none => none
        | _ => none
      | .s (.hw id z lo hi) => match look h id with
        | some (.vec _ k' l) => if z == k'.esz then match canon A h ds xs (j + 1) with
          | some c => c.rd (.hs j) (.vec false k' (A.sub l lo hi)) (.hw id z lo hi) [A.cmp .leq 0 lo, A.cmp .leq lo hi, A.cmp .leq hi (A.len l)] id
          | none => none else none
        | _ => none
      | .s (.ha id off 1 lo hi 32) => match look h id with
        | some (.fix _ l) => match atD l off with
          | some d => match canon A h ds xs (j + 1) with
            | some c => c.rd (.hs j) (.vec false (.int .u32) (A.digs d lo hi)) (.ha id off 1 lo hi 32) [A.cmp .leq 0 lo, A.cmp .leq lo hi, A.cmp .leq hi 32] id
            | none => none
          | none => none
        | _ => none
      | _ => none
    | .pw => match x with
      | .s (.hp id 0) => match look h id with
        | some (.fix true l) => if flatL l then match canon A h ds xs (j + 1) with
          | some c => c.wrt (.hp j 0) (.fix true l) (.hp id 0) [] id j
          | none => none else none
        | _ => none
      | _ => none
    | .sw k => match x with
      | .s (.hs id) => match look h id with
        | some (.vec true k' l) => match canon A h ds xs (j + 1) with
          | some c => c.wrt (.hw j k'.esz 0 (A.len l)) (.vec true k' l) (.hs id) [] id j
          | none => none
        | _ => none
      | .s (.hw id z lo hi) => match look h id with
        | some (.vec true k' l) => if z == k'.esz then match canon A h ds xs (j + 1) with
          | some c => c.wrt (.hw j z lo hi) (.vec true k' l) (.hs id) [A.cmp .leq 0 lo, A.cmp .leq lo hi, A.cmp .leq hi (A.len l)] id j
          | none => none else none
        | _ => none
      | _ => none
  | _, _, _ => none

def heapOf : List Blk → Nat → Heap
  | [], _ => []
  | b :: r, j => (j, b) :: heapOf r (j + 1)

/-- a result's scalar, told by the caller's handles -/
def renS (A : Alg) (L m q : Nat) (σ : List Sc) : Sc → Option (List Bool × Sc)
  | .hp j off => if q ≤ j then (if j < q + L then some ([], .hp (m + (j - q)) off) else none) else match σ[j]? with
    | some (.hp id o) => some ([], .hp id (o + off))
    | _ => none
  | .hs j => if q ≤ j then (if j < q + L then some ([], .hs (m + (j - q))) else none) else match σ[j]? with
    | some x => some ([], x)
    | none => none
  | .hw j z lo hi => if q ≤ j then (if j < q + L then some ([], .hw (m + (j - q)) z lo hi) else none) else match σ[j]? with
    | some (.hs id) => some ([], .hw id z lo hi)
    | some (.hw id z' lo' _) => if z == z' && lo == 0 then some ([A.cmp .leq 0 hi], .hw id z lo' (A.iadd lo' hi)) else none
    | some .nils => some ([A.cmp .leq hi lo, A.cmp .leq 0 lo], .nils)
    | _ => none
  | x => if x.flat then some ([], x) else none

def renL (A : Alg) (L m q : Nat) (σ : List Sc) : List At → Option (List Bool × List At)
  | [] => some ([], [])
  | .s x :: r => match renS A L m q σ x, renL A L m q σ r with
    | some (o, y), some (p, s) => some (o ++ p, .s y :: s)
    | _, _ => none
  | a :: r => match renL A L m q σ r with
    | some (p, s) => some (p, a :: s)
    | none => none

def renV (A : Alg) (L m q : Nat) (σ : List Sc) : CV → Option (List Bool × CV)
  | .s x => match renS A L m q σ x with
    | some (o, y) => some (o, .s y)
    | none => none
  | .g l => match renL A L m q σ l with
    | some (o, y) => some (o, .g y)
    | none => none

def renVs (A : Alg) (L m q : Nat) (σ : List Sc) : List CV → Option (List Bool × List CV)
  | [] => some ([], [])
  | x :: r => match renV A L m q σ x, renVs A L m q σ r with
    | some (o, y), some (p, s) => some (o ++ p, y :: s)
    | _, _ => none

def renX (A : Alg) (L m q : Nat) (σ : List Sc) : XV → Option (List Bool × XV)
  | .c x => match renV A L m q σ x with
    | some (o, y) => some (o, .c y)
    | none => none
  | .t l => match renVs A L m q σ l with
    | some (o, y) => some (o, .t y)
    | none => none

/-- what a function tells: obligations, its value (handles below q: its arguments'; from q on: the new blocks), new blocks -/
structure LR where
  ob : List Bool
  val : XV
  new : List Blk

def okNew : List Blk → Bool
  | [] => true
  | b :: r => (match b with
    | .fix true _ => true
    | .vec true _ _ => true
    | _ => false) && b.flat && okNew r

/-- such a function that writes, too: what the written arguments' blocks hold behind it, in their order -/
structure LW where
  ob : List Bool
  val : XV
  new : List Blk
  wr : List Blk

def wrOf : List (Nat × Nat) → List Blk → Option Heap
  | [], [] => some []
  | (_, id) :: r, b :: l => match wrOf r l with
    | some h => some ((id, b) :: h)
    | none => none
  | _, _ => none

def heapSemW (ds : List PD) (A : Alg) (g : List CV → List Blk → Option LW) : Sem' := fun m xs h =>
  match canon A h ds xs 0 with
  | some c => match g c.args c.heap with
    | some r => if okNew r.new && okNew r.wr then match renX A r.new.length m c.sc.length c.sc r.val, wrOf c.wi r.wr with
      | some (o, v), some wr => some ⟨c.ob ++ (r.ob ++ o), v, r.new, wr⟩
      | _, _ => none else none
    | none => none
  | none => none

def toW (g : List CV → List Blk → Option LR) : List CV → List Blk → Option LW := fun xs bs => match g xs bs with
  | some r => some ⟨r.ob, r.val, r.new, []⟩
  | none => none

def heapSem (ds : List PD) (A : Alg) (g : List CV → List Blk → Option LR) : Sem' := heapSemW ds A (toW g)

/-! ## It is so -/
theorem Sc.flat_den {x : Sc} (h : x.flat = true) (ρ ρ' : Rho) : x.den ρ' = x.den ρ := by cases x <;> first | rfl | cases h

theorem flatL_flats : ∀ {l : List At}, flatL l = true → ∀ ρ ρ', flats ρ' l = flats ρ l
  | [], _, _, _ => rfl
  | a :: r, h, ρ, ρ' => by
    have hc : a.cells ρ' = a.cells ρ ∧ flatL r = true := by
      cases a with
      | s x => simp only [flatL, Bool.and_eq_true] at h; exact ⟨by simp [At.cells, Sc.flat_den h.1 ρ ρ'], h.2⟩
      | _ => exact ⟨rfl, h⟩
    simp only [flats]
    rw [hc.1, flatL_flats hc.2 ρ ρ']

theorem CV.flat_den {x : CV} (h : x.flat = true) (ρ ρ' : Rho) : x.den ρ' = x.den ρ := by
  cases x with
  | s x => exact Sc.flat_den h ρ ρ'
  | g l => simp only [CV.den]; rw [flatL_flats h ρ ρ']

theorem Sc.norm_den (x : Sc) (ρ : Rho) : x.norm.den ρ = x.den ρ := by cases x <;> rfl

theorem normL_flats (ρ : Rho) : ∀ l : List At, flats ρ (normL l) = flats ρ l
  | [] => rfl
  | .s x :: r => by simp only [normL, flats, At.cells, Sc.norm_den, normL_flats ρ r]
  | .D _ :: r => by simp only [normL, flats, normL_flats ρ r]
  | .W _ :: r => by simp only [normL, flats, normL_flats ρ r]
  | .R _ :: r => by simp only [normL, flats, normL_flats ρ r]
  | .P _ :: r => by simp only [normL, flats, normL_flats ρ r]

theorem CV.norm_den (x : CV) (ρ : Rho) : x.norm.den ρ = x.den ρ := by
  cases x with
  | s x => exact Sc.norm_den x ρ
  | g l => simp only [CV.norm, CV.den, normL_flats]

theorem Blk.flat_stb {b : Blk} (h : b.flat = true) (n : Ids) (ρ : Rho) : b.stb n ρ := by
  cases b with
  | fix o l => exact fun ρ' _ => flatL_flats h ρ ρ'
  | vec => trivial
  | gone => trivial

theorem Blk.flat_ok {b : Blk} (h : b.flat = true) {w : World} {v : Value} {ρ : Rho} (ρ' : Rho) (hk : b.ok w v ρ) : b.ok w v ρ' :=
  Blk.ok_move (Blk.flat_stb h (fun _ => False) ρ) (fun _ hi => hi.elim) hk

theorem RK.flat_cons (k : RK) (x : k.ty) (l : List k.ty) : k.flat (x :: l) = flats (fun _ => undef) (k.at x) ++ k.flat l := rfl

theorem RK.at_len (k : RK) (x : k.ty) (ρ : Rho) : (flats ρ (k.at x)).length = k.esz := by rw [flats_length, k.at_sizes]

theorem RK.flat_take (k : RK) : ∀ (l : List k.ty) (i : Nat), k.flat (l.take i) = (k.flat l).take (i * k.esz)
  | [], i => by simp [RK.flat]
  | x :: l, 0 => by simp [RK.flat]
  | x :: l, i + 1 => by
    rw [List.take_succ_cons, RK.flat_cons, RK.flat_cons, RK.flat_take k l i, List.take_append, k.at_len, List.take_of_length_le (l := flats _ _) (by rw [k.at_len, Nat.add_mul]; omega)]
    have : (i + 1) * k.esz - k.esz = i * k.esz := by rw [Nat.add_mul]; omega
    rw [this]

theorem RK.flat_drop (k : RK) : ∀ (l : List k.ty) (i : Nat), k.flat (l.drop i) = (k.flat l).drop (i * k.esz)
  | [], i => by simp [RK.flat]
  | x :: l, 0 => by simp [RK.flat]
  | x :: l, i + 1 => by
    rw [List.drop_succ_cons, RK.flat_cons, RK.flat_drop k l i, List.drop_append, k.at_len, List.drop_eq_nil_of_le (as := flats _ _) (by rw [k.at_len, Nat.add_mul]; omega)]
    have : (i + 1) * k.esz - k.esz = i * k.esz := by rw [Nat.add_mul]; omega
    rw [this]; rfl

/-- a caller's scalar that stands for a block -/
def ScOK (n : Ids) (ρ : Rho) : Sc → Prop
  | .hp id _ => n id ∧ ∃ b o, ρ id = .pointer (some ⟨b, o, none⟩)
  | .hw id _ lo hi => n id ∧ ∃ base len cap, ρ id = .slice base len cap ∧ 0 ≤ lo ∧ lo.toNat ≤ cap ∧ lo ≤ hi ∧ ∀ a, base = some a → ∃ b o, a = ⟨b, o, none⟩
  | .ha id _ _ _ _ _ => n id
  | .hs id => n id
  | .nils => True
  | _ => False

theorem ScOK.stb {n : Ids} {ρ : Rho} {x : Sc} (h : ScOK n ρ x) : StbV n ρ (.s x) := fun ρ' ha => by
  cases x with
  | hp id o => simp only [CV.den, Sc.den]; rw [ha id h.1]
  | hw id z lo hi => simp only [CV.den, Sc.den]; rw [ha id h.1]
  | ha id e f a b c => simp only [CV.den, Sc.den]; rw [ha id h]
  | hs id => simp only [CV.den, Sc.den]; exact ha id h
  | nils => rfl
  | _ => exact h.elim

structure CanonOK (w0 : World) (Wr : Base) (h : Heap) (w : World) (ρ : Rho) (n : Ids) (c : Canon) (xs : List CV) (j : Nat) : Prop where
  len : c.heap.length = c.sc.length
  blk : ∀ (i : Nat) (x : Sc) (b : Blk), c.sc[i]? = some x → c.heap[i]? = some b → b.live = true ∧ b.flat = true ∧ b.ok w (x.den ρ) ρ ∧ (x.den ρ).oneCell' = true
  args : ∀ ρ' : Rho, (∀ i x, c.sc[i]? = some x → ρ' (j + i) = x.den ρ) → c.args.map (CV.den ρ') = xs.map (CV.den ρ)
  stb : ∀ v, v ∈ c.args → ∀ ρ', StbV (fun i => j ≤ i ∧ i < j + c.sc.length) ρ' v
  scs : ∀ x, x ∈ c.sc → ScOK n ρ x
  /-- where an argument's block is known to the caller -/
  at_ : ∀ x, x ∈ c.sc → ∀ y, blkOf (x.den ρ) = some y → ∃ id k, id ∈ c.ids ∧ look h id = some k ∧ k.live = true ∧ blkOf (ρ id) = some y
  own : ∀ (i : Nat) (x : Sc) (b : Blk), c.sc[i]? = some x → c.heap[i]? = some b → b.own = true → ∃ id k, (j + i, id) ∈ c.wi ∧ look h id = some k ∧ k.own = true ∧ x.den ρ = ρ id
  wis : ∀ q id, (q, id) ∈ c.wi → id ∈ c.ids ∧ ∃ i x b k, q = j + i ∧ c.sc[i]? = some x ∧ c.heap[i]? = some b ∧ b.own = true ∧ look h id = some k ∧ k.own = true ∧ x.den ρ = ρ id
  nod : (c.wi.map (·.2)).Nodup
  sep : ∀ (i : Nat) (x : Sc) (b : Blk) (i' : Nat) (x' : Sc), c.sc[i]? = some x → c.heap[i]? = some b → c.sc[i']? = some x' → i ≠ i' → b.own = true → ∀ y, blkOf (x.den ρ) = some y → blkOf (x'.den ρ) ≠ some y

section
variable {w0 w : World} {Wr : Base} {ρ : Rho} {h : Heap} {n : Ids} {c : Canon} {xs : List CV} {j : Nat}

/-- one more argument's block -/
theorem CanonOK.cons (hc : CanonOK w0 Wr h w ρ n c xs (j + 1)) (hs : HS w0 Wr ρ h n w) {y x : Sc} {b : Blk} {ob : List Bool} {ids : List Nat} {wi : List (Nat × Nat)} (hy : ∀ ρ' : Rho, ρ' j = x.den ρ → y.den ρ' = x.den ρ)
    (hst : ∀ ρ' ρ'' : Rho, ρ'' j = ρ' j → y.den ρ'' = y.den ρ') (h1 : b.live = true) (h2 : b.flat = true) (h3 : b.ok w (x.den ρ) ρ) (h4 : (x.den ρ).oneCell' = true) (h6 : ScOK n ρ x)
    (hids : ∀ id, id ∈ c.ids → id ∈ ids)
    (hat : ∀ z, blkOf (x.den ρ) = some z → ∃ id k, id ∈ ids ∧ look h id = some k ∧ k.live = true ∧ blkOf (ρ id) = some z ∧ ∀ q id', (q, id') ∈ c.wi → id' ≠ id)
    (hown : (b.own = false ∧ wi = c.wi) ∨ (∃ id k, wi = (j, id) :: c.wi ∧ look h id = some k ∧ k.own = true ∧ x.den ρ = ρ id ∧ id ∉ c.ids ∧ id ∈ ids ∧ b.own = true)) :
    CanonOK w0 Wr h w ρ n ⟨.s y :: c.args, b :: c.heap, x :: c.sc, ob, ids, wi⟩ (.s x :: xs) j := by
  have hsub : ∀ p, p ∈ c.wi → p ∈ wi := fun p hp => by
    rcases hown with ⟨_, rfl⟩ | ⟨id, k, rfl, _⟩
    · exact hp
    · exact List.mem_cons_of_mem _ hp
  exact {
    len := by simp [hc.len]
    blk := fun i x' b' hx hb => by
      cases i with
      | zero => simp at hx hb; subst hx hb; exact ⟨h1, h2, h3, h4⟩
      | succ i => exact hc.blk i x' b' (by simpa using hx) (by simpa using hb)
    args := fun ρ' hρ => by
      simp only [List.map_cons, CV.den]
      rw [hy ρ' (by simpa using hρ 0 x rfl), hc.args ρ' fun i x' hx => by rw [show j + 1 + i = j + (i + 1) from by omega]; exact hρ (i + 1) x' (by simpa using hx)]
    stb := fun v hv ρ' => by
      simp only [List.mem_cons] at hv
      rcases hv with rfl | hv
      · exact fun ρ'' ha => hst ρ' ρ'' (ha j ⟨Nat.le_refl _, by simp⟩)
      · exact (hc.stb v hv ρ').mono fun i hi => ⟨by omega, by simp only [List.length_cons]; omega⟩
    scs := fun x' hx => by
      simp only [List.mem_cons] at hx
      rcases hx with rfl | hx
      · exact h6
      · exact hc.scs x' hx
    at_ := fun x' hx z hz => by
      simp only [List.mem_cons] at hx
      rcases hx with rfl | hx
      · obtain ⟨id, k, g1, g2, g3, g4, _⟩ := hat z hz
        exact ⟨id, k, g1, g2, g3, g4⟩
      · obtain ⟨id, k, g1, g2⟩ := hc.at_ x' hx z hz
        exact ⟨id, k, hids id g1, g2⟩
    own := fun i x' b' hx hb ho => by
      cases i with
      | zero =>
        simp at hx hb
        subst hx hb
        rcases hown with ⟨h0, _⟩ | ⟨id, k, rfl, g1, g2, g3, g4, _⟩
        · rw [h0] at ho; cases ho
        · exact ⟨id, k, by simp, g1, g2, g3⟩
      | succ i =>
        obtain ⟨id, k, g1, g2⟩ := hc.own i x' b' (by simpa using hx) (by simpa using hb) ho
        exact ⟨id, k, hsub _ (by rw [show j + (i + 1) = j + 1 + i from by omega]; exact g1), g2⟩
    wis := fun q id hq => by
      have old : (q, id) ∈ c.wi → id ∈ ids ∧ ∃ i x_1 b_1 k, q = j + i ∧ (x :: c.sc)[i]? = some x_1 ∧ (b :: c.heap)[i]? = some b_1 ∧ b_1.own = true ∧ look h id = some k ∧ k.own = true ∧ x_1.den ρ = ρ id := fun hq => by
        obtain ⟨g1, i, x', b', k, g2, g3, g4, g5⟩ := hc.wis q id hq
        exact ⟨hids id g1, i + 1, x', b', k, by omega, by simpa using g3, by simpa using g4, g5⟩
      rcases hown with ⟨_, rfl⟩ | ⟨id0, k, rfl, g1, g2, g3, g4, g5, g6⟩
      · exact old hq
      · simp only [List.mem_cons, Prod.mk.injEq] at hq
        rcases hq with ⟨rfl, rfl⟩ | hq
        · exact ⟨g5, 0, x, b, k, by simp, rfl, rfl, g6, g1, g2, g3⟩
        · exact old hq
    nod := by
      rcases hown with ⟨_, rfl⟩ | ⟨id0, k, rfl, g1, g2, g3, g4, _⟩
      · exact hc.nod
      · simp only [List.map_cons, List.nodup_cons]
        refine ⟨fun hm => ?_, hc.nod⟩
        obtain ⟨⟨q, id⟩, hp, rfl⟩ := List.mem_map.1 hm
        exact g4 (hc.wis q id hp).1
    sep := fun i x1 b1 i' x2 hx1 hb1 hx2 hij ho z hz hz2 => by
      cases i with
      | zero =>
        simp at hx1 hb1
        subst hx1 hb1
        cases i' with
        | zero => exact hij rfl
        | succ i' =>
          rcases hown with ⟨h0, _⟩ | ⟨id, k, rfl, g1, g2, g3, g4, _⟩
          · rw [h0] at ho; cases ho
          · have hx2' : c.sc[i']? = some x2 := by simpa using hx2
            obtain ⟨id', k', e1, e2, e3, e4⟩ := hc.at_ x2 (List.mem_of_getElem? hx2') z hz2
            rw [g3] at hz
            have hne : id ≠ id' := fun e => by subst e; exact g4 e1
            exact hs.sep id k id' k' g1 e2 hne g2 e3 z hz e4
      | succ i =>
        have hx1' : c.sc[i]? = some x1 := by simpa using hx1
        have hb1' : c.heap[i]? = some b1 := by simpa using hb1
        cases i' with
        | zero =>
          simp at hx2
          subst hx2
          obtain ⟨id, k, e1, e2, e3, e4⟩ := hc.own i x1 b1 hx1' hb1' ho
          obtain ⟨id', k', f1, f2, f3, f4, f5⟩ := hat z hz2
          rw [e4] at hz
          exact hs.sep id k id' k' e2 f2 (f5 _ id e1) e3 f3 z hz f4
        | succ i' => exact hc.sep i x1 b1 i' x2 hx1' hb1' (by simpa using hx2) (by omega) ho z hz hz2 }

/-- a block that is read -/
theorem CanonOK.rd (hc : CanonOK w0 Wr h w ρ n c xs (j + 1)) (hs : HS w0 Wr ρ h n w) {y x : Sc} {b : Blk} {ob : List Bool} {id : Nat} {c' : Canon} (e : c.rd y b x ob id = some c') {k : Blk} (hk : look h id = some k) (hkl : k.live = true)
    (hx : ∀ z, blkOf (x.den ρ) = some z → blkOf (ρ id) = some z) (hy : ∀ ρ' : Rho, ρ' j = x.den ρ → y.den ρ' = x.den ρ)
    (hst : ∀ ρ' ρ'' : Rho, ρ'' j = ρ' j → y.den ρ'' = y.den ρ') (h1 : b.live = true) (h1' : b.own = false) (h2 : b.flat = true) (h3 : b.ok w (x.den ρ) ρ) (h4 : (x.den ρ).oneCell' = true) (h6 : ScOK n ρ x) :
    CanonOK w0 Wr h w ρ n c' (.s x :: xs) j := by
  unfold Canon.rd at e
  split at e
  · simp at e
  · rename_i hn
    simp only [Option.some.injEq] at e
    subst e
    refine hc.cons hs hy hst h1 h2 h3 h4 h6 (fun i hi => List.mem_cons_of_mem _ hi) (fun z hz => ⟨id, k, List.mem_cons_self .., hk, hkl, hx z hz, fun q id' hq he => ?_⟩) (.inl ⟨h1', rfl⟩)
    subst he
    exact hn (List.any_eq_true.2 ⟨_, hq, by simp⟩)

/-- a block that is written -/
theorem CanonOK.wrt (hc : CanonOK w0 Wr h w ρ n c xs (j + 1)) (hs : HS w0 Wr ρ h n w) {y x x' : Sc} {b : Blk} {ob : List Bool} {id : Nat} {c' : Canon} (e : c.wrt y b x ob id j = some c') {k : Blk} (hk : look h id = some k) (hko : k.own = true)
    (hx : x.den ρ = ρ id) (hx' : ∀ ρ' : Rho, ρ' j = x.den ρ → y.den ρ' = x'.den ρ)
    (hst : ∀ ρ' ρ'' : Rho, ρ'' j = ρ' j → y.den ρ'' = y.den ρ') (h1' : b.own = true) (h2 : b.flat = true) (h3 : b.ok w (x.den ρ) ρ) (h4 : (x.den ρ).oneCell' = true) (h6 : ScOK n ρ x) :
    CanonOK w0 Wr h w ρ n c' (.s x' :: xs) j := by
  unfold Canon.wrt at e
  split at e
  · simp at e
  · rename_i hn
    simp only [Option.some.injEq] at e
    subst e
    have hn' : id ∉ c.ids := fun hi => hn (by simpa using hi)
    have base := hc.cons (y := .un) (x := x) (b := b) (ob := ob ++ c.ob) (ids := id :: c.ids) (wi := (j, id) :: c.wi) hs
    have hwi : ∀ q id', (q, id') ∈ c.wi → id' ≠ id := fun q id' hq he => by subst he; exact hn' (hc.wis q _ hq).1
    have main : CanonOK w0 Wr h w ρ n ⟨.s y :: c.args, b :: c.heap, x :: c.sc, ob ++ c.ob, id :: c.ids, (j, id) :: c.wi⟩ (.s x' :: xs) j := {
      len := by simp [hc.len]
      blk := fun i x1 b1 hx1 hb1 => by
        cases i with
        | zero => simp at hx1 hb1; subst hx1 hb1; exact ⟨Blk.live_own h1', h2, h3, h4⟩
        | succ i => exact hc.blk i x1 b1 (by simpa using hx1) (by simpa using hb1)
      args := fun ρ' hρ => by
        simp only [List.map_cons, CV.den]
        rw [hx' ρ' (by simpa using hρ 0 x rfl), hc.args ρ' fun i x' hx => by rw [show j + 1 + i = j + (i + 1) from by omega]; exact hρ (i + 1) x' (by simpa using hx)]
      stb := fun v hv ρ' => by
        simp only [List.mem_cons] at hv
        rcases hv with rfl | hv
        · exact fun ρ'' ha => hst ρ' ρ'' (ha j ⟨Nat.le_refl _, by simp⟩)
        · exact (hc.stb v hv ρ').mono fun i hi => ⟨by omega, by simp only [List.length_cons]; omega⟩
      scs := fun x1 hx1 => by
        simp only [List.mem_cons] at hx1
        rcases hx1 with rfl | hx1
        · exact h6
        · exact hc.scs x1 hx1
      at_ := fun x1 hx1 z hz => by
        simp only [List.mem_cons] at hx1
        rcases hx1 with rfl | hx1
        · exact ⟨id, k, List.mem_cons_self .., hk, Blk.live_own hko, by rw [← hx]; exact hz⟩
        · obtain ⟨id', k', g1, g2⟩ := hc.at_ x1 hx1 z hz
          exact ⟨id', k', List.mem_cons_of_mem _ g1, g2⟩
      own := fun i x1 b1 hx1 hb1 ho => by
        cases i with
        | zero => simp at hx1 hb1; subst hx1 hb1; exact ⟨id, k, by simp, hk, hko, hx⟩
        | succ i =>
          obtain ⟨id', k', g1, g2⟩ := hc.own i x1 b1 (by simpa using hx1) (by simpa using hb1) ho
          exact ⟨id', k', List.mem_cons_of_mem _ (by rw [show j + (i + 1) = j + 1 + i from by omega]; exact g1), g2⟩
      wis := fun q id' hq => by
        simp only [List.mem_cons, Prod.mk.injEq] at hq
        rcases hq with ⟨rfl, rfl⟩ | hq
        · exact ⟨List.mem_cons_self .., 0, x, b, k, by simp, rfl, rfl, h1', hk, hko, hx⟩
        · obtain ⟨g1, i, x1, b1, k1, g2, g3, g4, g5⟩ := hc.wis q id' hq
          exact ⟨List.mem_cons_of_mem _ g1, i + 1, x1, b1, k1, by omega, by simpa using g3, by simpa using g4, g5⟩
      nod := by
        simp only [List.map_cons, List.nodup_cons]
        refine ⟨fun hm => ?_, hc.nod⟩
        obtain ⟨⟨q, id'⟩, hp, rfl⟩ := List.mem_map.1 hm
        exact hwi q id' hp rfl
      sep := fun i x1 b1 i' x2 hx1 hb1 hx2 hij ho z hz hz2 => by
        cases i with
        | zero =>
          simp at hx1 hb1
          subst hx1 hb1
          cases i' with
          | zero => exact hij rfl
          | succ i' =>
            have hx2' : c.sc[i']? = some x2 := by simpa using hx2
            obtain ⟨id', k', e1, e2, e3, e4⟩ := hc.at_ x2 (List.mem_of_getElem? hx2') z hz2
            rw [hx] at hz
            have hne : id ≠ id' := fun e => by subst e; exact hn' e1
            exact hs.sep id k id' k' hk e2 hne hko e3 z hz e4
        | succ i =>
          have hx1' : c.sc[i]? = some x1 := by simpa using hx1
          have hb1' : c.heap[i]? = some b1 := by simpa using hb1
          cases i' with
          | zero =>
            simp at hx2
            subst hx2
            obtain ⟨id', k', e1, e2, e3, e4⟩ := hc.own i x1 b1 hx1' hb1' ho
            rw [e4] at hz
            rw [hx] at hz2
            exact hs.sep id' k' id k e2 hk (hwi _ id' e1) e3 (Blk.live_own hko) z hz hz2
          | succ i' => exact hc.sep i x1 b1 i' x2 hx1' hb1' (by simpa using hx2) (by omega) ho z hz hz2 }
    exact main

theorem rd_ob {y x : Sc} {b : Blk} {ob : List Bool} {id : Nat} {c' : Canon} (e : c.rd y b x ob id = some c') : c'.ob = ob ++ c.ob := by
  unfold Canon.rd at e
  split at e
  · simp at e
  · simp only [Option.some.injEq] at e; subst e; rfl
theorem wrt_ob {y x : Sc} {b : Blk} {ob : List Bool} {id i : Nat} {c' : Canon} (e : c.wrt y b x ob id i = some c') : c'.ob = ob ++ c.ob := by
  unfold Canon.wrt at e
  split at e
  · simp at e
  · simp only [Option.some.injEq] at e; subst e; rfl

theorem fix_blk {id off b o : Nat} {own : Bool} {l : List At} (h1 : ρ id = .pointer (some ⟨b, o, none⟩)) : ∀ z, blkOf ((Sc.hp id off).den ρ) = some z → blkOf (ρ id) = some z := fun z hz => by
  rw [hp_den h1] at hz; rw [h1]; exact hz

theorem hw_blk {id z0 : Nat} {lo hi : Int} {base : Option Addr} {len cap : Nat} (h2 : ρ id = .slice base len cap) : ∀ z, blkOf ((Sc.hw id z0 lo hi).den ρ) = some z → blkOf (ρ id) = some z := fun z hz => by
  simp only [Sc.den, h2] at hz
  rw [h2]
  cases base with
  | none => simp only [Option.map_none, ite_self, blkOf] at hz; cases hz
  | some a =>
    simp only [Option.map_some] at hz
    split at hz
    · exact hz
    · simp only [blkOf, Addr.add] at hz ⊢
      split at hz <;> exact hz

theorem canon_sound {A : Alg} (hA : A = stdA) (hs : HS w0 Wr ρ h n w) : ∀ {ds : List PD} {xs : List CV} {j : Nat} {c : Canon},
    canon A h ds xs j = some c → (∀ b, b ∈ c.ob → b = true) → CanonOK w0 Wr h w ρ n c xs j
  | [], [], j, c, e, ho => by
    simp only [canon, Option.some.injEq] at e; subst e
    exact ⟨rfl, fun i x b hx => by simp at hx, fun _ _ => rfl, fun v hv => by simp at hv, fun x hx => by simp at hx, fun x hx => by simp at hx, fun i x b hx => by simp at hx, fun q id hq => by simp at hq, by simp, fun i x b i' x' hx => by simp at hx⟩
  | [], _ :: _, _, _, e, _ => by simp [canon] at e
  | _ :: _, [], _, _, e, _ => by simp [canon] at e
  | d :: ds, x :: xs, j, c, e, ho => by
    cases d with
    | v =>
      simp only [canon] at e
      split at e
      · rename_i hf
        split at e
        · rename_i c' hc
          simp only [Option.some.injEq] at e; subst e
          have ih := canon_sound hA hs hc ho
          exact ⟨ih.len, ih.blk, fun ρ' hρ => by simp only [List.map_cons]; rw [CV.norm_den, CV.flat_den hf ρ ρ', ih.args ρ' hρ], fun v hv ρ' => by
            simp only [List.mem_cons] at hv
            rcases hv with rfl | hv
            · exact fun ρ'' _ => by rw [CV.norm_den, CV.norm_den]; exact CV.flat_den hf _ _
            · exact ih.stb v hv ρ', ih.scs, ih.at_, ih.own, ih.wis, ih.nod, ih.sep⟩
        · simp at e
      · simp at e
    | p =>
      simp only [canon] at e
      split at e
      · rename_i id off
        split at e
        · rename_i own l hl
          split at e
          · rename_i l' hl'
            split at e
            · rename_i hf
              split at e
              · rename_i c' hc
                have ih := canon_sound hA hs hc fun b hb => ho b (by rw [rd_ob e]; simp [hb])
                obtain ⟨b, o, h1, h2, h3, h4, h5, h6⟩ := hs.fix hl
                obtain ⟨g1, g2⟩ := dropA_flats ρ _ _ _ _ hl'
                have hd : (Sc.hp id off).den ρ = .pointer (some ⟨b, o + off, none⟩) := hp_den h1
                refine ih.rd hs (x := .hp id off) e hl rfl (fix_blk (own := own) (l := l) h1) (fun ρ' hρ => ?_) (fun ρ' ρ'' he => ?_) rfl rfl hf ⟨b, o + off, hd, h2, ?_, fun e => by cases e⟩ (by rw [hd]; rfl) ⟨h5, b, o, h1⟩
                · rw [hd] at hρ ⊢
                  simp [Sc.den, hρ, addOff, Addr.add_mid]
                · simp only [Sc.den, he]
                · rw [g2]
                  intro q v hv
                  have := h3 (off + q) v (by simpa using hv)
                  rw [← Nat.add_assoc] at this
                  exact this
              · simp at e
            · simp at e
          · simp at e
        · simp at e
      · simp at e
    | pd =>
      simp only [canon] at e
      split at e
      · rename_i id off
        split at e
        · rename_i own l hl
          split at e
          · rename_i d hd'
            split at e
            · rename_i c' hc
              have ih := canon_sound hA hs hc fun b hb => ho b (by rw [rd_ob e]; simp [hb])
              obtain ⟨b, o, h1, h2, h3, h4, h5, h6⟩ := hs.fix hl
              obtain ⟨g1, g2⟩ := atD_flats (ρ := ρ) hd'
              have hd : (Sc.hp id off).den ρ = .pointer (some ⟨b, o + off, none⟩) := hp_den h1
              refine ih.rd hs (x := .hp id off) e hl rfl (fix_blk (own := own) (l := l) h1) (fun ρ' hρ => ?_) (fun ρ' ρ'' he => ?_) rfl rfl rfl ⟨b, o + off, hd, h2, ?_, fun e => by cases e⟩ (by rw [hd]; rfl) ⟨h5, b, o, h1⟩
              · rw [hd] at hρ ⊢
                simp [Sc.den, hρ, addOff, Addr.add_mid]
              · simp only [Sc.den, he]
              · simp only [flats, At.cells, List.append_nil]
                rw [← g2]
                exact rangeAt_sub off 32 h3
            · simp at e
          · simp at e
        · simp at e
      · simp at e
    | s k =>
      simp only [canon] at e
      split at e
      · split at e
        · rename_i c' hc
          simp only [Option.some.injEq] at e; subst e
          have ih := canon_sound hA hs hc ho
          exact ih.cons hs (x := .nils) (fun ρ' hρ => hρ) (fun ρ' ρ'' he => he) rfl rfl ⟨none, 0, rfl, Nat.le_refl _, rfl, rfl⟩ rfl trivial (fun _ h => h) (fun z hz => by cases hz) (.inl ⟨rfl, rfl⟩)
        · simp at e
      · rename_i id
        split at e
        · rename_i own k' l hl
          split at e
          · rename_i c' hc
            have ih := canon_sound hA hs hc fun b hb => ho b (by rw [rd_ob e]; simp [hb])
            obtain ⟨h1, ⟨base, cap, h2, h3, h4⟩, h5⟩ := hs.ok _ _ hl
            refine ih.rd hs (x := .hs id) e hl rfl (fun z hz => hz) (fun ρ' hρ => hρ) (fun ρ' ρ'' he => he) rfl rfl rfl ⟨base, cap, h2, h3, ?_⟩ (hs.one id) h1
            cases base with
            | none => exact h4
            | some a => obtain ⟨b, o, g1, g2, g3, _⟩ := h4; exact ⟨b, o, g1, g2, g3, fun e => by cases e⟩
          · simp at e
        · simp at e
      · rename_i id z lo hi
        split at e
        · rename_i own k' l hl
          split at e
          · rename_i hz
            split at e
            · rename_i c' hc
              simp only [beq_iff_eq] at hz
              subst hz
              have hob := ho
              rw [rd_ob e] at hob
              simp only [List.cons_append, List.nil_append, List.forall_mem_cons, hA, stdA, stdCmp, decide_eq_true_eq] at hob
              obtain ⟨g1, g2, g3, hob⟩ := hob
              have ih := canon_sound hA hs hc hob
              obtain ⟨h1, ⟨base, cap, h2, h3, h4⟩, h5⟩ := hs.ok _ _ hl
              have hd : (Sc.hw id k'.esz lo hi).den ρ = .slice (if cap = lo.toNat then base else base.map (·.add (lo.toNat * k'.esz))) (hi.toNat - lo.toNat) (cap - lo.toNat) := by
                simp only [Sc.den, h2]
              have hlen : (stdA.sub l lo hi).length = hi.toNat - lo.toNat := by
                simp only [stdA, List.length_drop, List.length_take]; omega
              refine ih.rd hs (x := .hw id k'.esz lo hi) e hl rfl (hw_blk h2) (fun ρ' hρ => hρ) (fun ρ' ρ'' he => he) rfl rfl rfl ⟨_, cap - lo.toNat, by rw [hA, hlen]; exact hd, by rw [hA, hlen]; omega, ?_⟩ (by rw [hd]; rfl) ⟨h1, base, _, cap, h2, g1, by omega, g2, ?_⟩
              · rw [hA]
                cases base with
                | none =>
                  obtain ⟨h4, h6⟩ := h4
                  subst h4 h6
                  simp [stdA]
                | some a =>
                  obtain ⟨b, o, q1, q2, q3, _⟩ := h4
                  subst q1
                  by_cases hcl : cap = lo.toNat
                  · rw [if_pos hcl]
                    refine ⟨b, o, rfl, q2, ?_, fun e => by cases e⟩
                    have : stdA.sub l lo hi = [] := List.eq_nil_of_length_eq_zero (by rw [hlen]; omega)
                    rw [this]
                    intro q v hv; simp [RK.flat] at hv
                  · rw [if_neg hcl]
                    refine ⟨b, o + lo.toNat * k'.esz, by simp [Addr.add_mid], q2, ?_, fun e => by cases e⟩
                    have : k'.flat (stdA.sub l lo hi) = ((k'.flat l).take (hi.toNat * k'.esz)).drop (lo.toNat * k'.esz) := by
                      simp only [stdA]; rw [RK.flat_drop, RK.flat_take]
                    rw [this]
                    intro q v hv
                    have := q3 (lo.toNat * k'.esz + q) v (by
                      rw [List.getElem?_drop, List.getElem?_take] at hv
                      split at hv
                      · exact hv
                      · simp at hv)
                    rw [← Nat.add_assoc] at this
                    exact this
              · intro a ha
                subst ha
                obtain ⟨b, o, q1, _⟩ := h4
                exact ⟨b, o, q1⟩
            · simp at e
          · simp at e
        · simp at e
      · -- a part of an array of words
        rename_i id off lo hi
        split at e
        · rename_i own l hl
          split at e
          · rename_i d hd
            split at e
            · rename_i c' hc
              have hob := ho
              rw [rd_ob e] at hob
              simp only [List.cons_append, List.nil_append, List.forall_mem_cons, hA, stdA, stdCmp, decide_eq_true_eq] at hob
              obtain ⟨g1, g2, g3, hob⟩ := hob
              have ih := canon_sound hA hs hc hob
              obtain ⟨b, o, h1, h2, h3, h4, h5, h6⟩ := hs.fix hl
              obtain ⟨h9, h10⟩ := atD_flats (ρ := ρ) hd
              have hde := ha_den (off := off) (esz := 1) (lo := lo) (hi := hi) (cap := 32) h1
              have hlen : (stdA.digs d lo hi).length = hi.toNat - lo.toNat := by simp [stdA]
              refine ih.rd hs (x := .ha id off 1 lo hi 32) e hl rfl (fun z hz => ?_) (fun ρ' hρ => hρ) (fun ρ' ρ'' he => he) rfl rfl rfl ⟨_, 32 - lo.toNat, by rw [hA, hlen]; exact hde, by rw [hA, hlen]; omega, ?_⟩ (by rw [hde]; rfl) h5
              · rw [hde] at hz
                rw [h1]
                by_cases hcl : 32 = lo.toNat
                · rw [if_pos hcl] at hz; exact hz
                · rw [if_neg hcl] at hz; exact hz
              · rw [hA]
                by_cases hcl : 32 = lo.toNat
                · rw [if_pos hcl]
                  refine ⟨b, o + off, rfl, h2, ?_, fun e => by cases e⟩
                  have : stdA.digs d lo hi = [] := List.eq_nil_of_length_eq_zero (by rw [hlen]; omega)
                  rw [this]
                  intro q v hv; simp [RK.flat] at hv
                · rw [if_neg hcl]
                  refine ⟨b, o + (off + lo.toNat * 1), rfl, h2, ?_, fun e => by cases e⟩
                  intro q v hv
                  rw [show RK.flat (.int .u32) (stdA.digs d lo hi) = (stdA.digs d lo hi).map (Value.int .u32) from flat_u32 _] at hv
                  have hq : q < hi.toNat - lo.toNat := by
                    rcases Nat.lt_or_ge q (hi.toNat - lo.toNat) with h | h
                    · exact h
                    · rw [List.getElem?_eq_none (by rw [List.length_map, hlen]; exact h)] at hv; simp at hv
                  have hv2 : v = .int .u32 ((d.dig (lo.toNat + q) : Nat) : Int) := by
                    simp [stdA, hq] at hv
                    exact hv.symm
                  subst hv2
                  have h11 : d.cells[lo.toNat + q]? = some (.int .u32 ((d.dig (lo.toNat + q) : Nat) : Int)) := by
                    have : lo.toNat + q < 32 := by omega
                    simp [Dg.cells, this]
                  rw [← h10, List.getElem?_take, if_pos (by omega), List.getElem?_drop] at h11
                  have := h3 _ _ h11
                  rw [show o + (off + lo.toNat * 1) + q = o + (off + (lo.toNat + q)) from by omega]
                  exact this
            · simp at e
          · simp at e
        · simp at e
      · simp at e
    | pw =>
      simp only [canon] at e
      split at e
      · rename_i id
        split at e
        · rename_i l hl
          split at e
          · rename_i hf
            split at e
            · rename_i c' hc
              have ih := canon_sound hA hs hc fun b hb => ho b (by rw [wrt_ob e]; simp [hb])
              obtain ⟨b, o, h1, h2, h3, h4, h5, h6⟩ := hs.fix hl
              have hd : (Sc.hp id 0).den ρ = ρ id := by rw [hp_den h1, h1]; rfl
              refine ih.wrt hs (x := .hp id 0) e hl rfl hd (fun ρ' hρ => ?_) (fun ρ' ρ'' he => ?_) rfl hf ?_ (by rw [hd]; exact hs.one id) ⟨h5, b, o, h1⟩
              · simp only [Sc.den] at hρ ⊢
                rw [hρ, addOff_zero]
              · simp only [Sc.den, he]
              · rw [hd]; exact (hs.ok _ _ hl).2.1
            · simp at e
          · simp at e
        · simp at e
      · simp at e
    | sw k =>
      simp only [canon] at e
      split at e
      · rename_i id
        split at e
        · rename_i k' l hl
          split at e
          · rename_i c' hc
            have ih := canon_sound hA hs hc fun b hb => ho b (by rw [wrt_ob e]; simp [hb])
            obtain ⟨h1, hok, h5⟩ := hs.ok _ _ hl
            obtain ⟨base, cap, h2, h3, h4⟩ := hok
            refine ih.wrt hs (x := .hs id) (x' := .hs id) e hl rfl rfl (fun ρ' hρ => ?_) (fun ρ' ρ'' he => ?_) rfl rfl (hs.ok _ _ hl).2.1 (hs.one id) h1
            · have hρ' : ρ' j = .slice base l.length cap := by rw [hρ]; exact h2
              show (Sc.hw j k'.esz 0 (A.len l)).den ρ' = ρ id
              rw [h2, hA]
              simp only [Sc.den, hρ', stdA]
              simp only [Int.toNat_zero, Nat.zero_mul, Nat.sub_zero, Int.toNat_natCast]
              congr 1
              split
              · rfl
              · cases base with
                | none => rfl
                | some a => obtain ⟨b, o, rfl, _⟩ := h4; simp [Addr.add_mid]
            · simp only [Sc.den, he]
          · simp at e
        · simp at e
      · rename_i id z lo hi
        split at e
        · rename_i k' l hl
          split at e
          · rename_i hz
            split at e
            · rename_i c' hc
              simp only [beq_iff_eq] at hz
              subst hz
              have ih := canon_sound hA hs hc fun b hb => ho b (by rw [wrt_ob e]; simp [hb])
              obtain ⟨h1, hok, h5⟩ := hs.ok _ _ hl
              refine ih.wrt hs (x := .hs id) (x' := .hw id k'.esz lo hi) e hl rfl rfl (fun ρ' hρ => ?_) (fun ρ' ρ'' he => ?_) rfl rfl hok (hs.one id) h1
              · have hρ' : ρ' j = ρ id := hρ
                simp only [Sc.den, hρ']
              · simp only [Sc.den, he]
            · simp at e
          · simp at e
        · simp at e
      · simp at e

end
end Go.Eng
