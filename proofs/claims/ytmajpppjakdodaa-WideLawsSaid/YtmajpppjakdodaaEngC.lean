/- The engine, part C: what symbolic values stand for; atoms as cells. -/
import Derived.Test.YtmajpppjakdodaaEngB
import Derived.Deep.MidRow
set_option linter.all false
set_option exponentiation.threshold 3000
namespace Go.Eng

theorem modlt (n k : Nat) : n % 2 ^ k < 2 ^ k := Nat.mod_lt _ (Nat.two_pow_pos k)

def Dg.zero : Dg := ⟨0, Nat.two_pow_pos 1024⟩
def Dg.set (d : Dg) (i v : Nat) : Dg := ⟨(d.n - d.dig i * 2 ^ (32 * i) + v * 2 ^ (32 * i)) % 2 ^ 1024, modlt _ 1024⟩

def copyFrom : Dg → Nat → Nat → List Int → Dg
  | d, _, _, [] => d
  | d, i, hi, v :: r => if i < hi then copyFrom (d.set i v.toNat) (i + 1) hi r else d

def stdA : Alg where
  bin := stdBin
  cmp := stdCmp
  wrap := IntKind.wrap
  not := (!·)
  and := (· && ·)
  imp a b := !a || b
  ite c x y := if c then x else y
  beq := (· == ·)
  seq := (· == ·)
  dig d i := (d.dig i.toNat : Nat)
  setD d i v := d.set i.toNat v.toNat
  eqD x y := decide (x = y)
  eqW x y := decide (x = y)
  eqR x y := decide (x = y)
  eqP x y := decide (x = y)
  zD := Dg.zero
  len l := (l.length : Int)
  get l i d := l.getD i.toNat d
  set l i x := l.set i.toNat x
  app l m := l ++ m
  sub l i j := (l.take j.toNat).drop i.toNat
  slen s := (s.size : Int)
  sb s i := match s[i.toNat]? with
    | some b => (b.toNat : Int)
    | none => 0
  iadd a b := a + b
  isub a b := a - b
  mn a b := if b < a then b else a
  mx a b := if b > a then b else a
  digs d lo hi := (List.range (hi.toNat - lo.toNat)).map fun i => ((d.dig (lo.toNat + i) : Nat) : Int)
  dig2 d e i := if i < 32 then ((d.dig i.toNat : Nat) : Int) else ((e.dig (i.toNat - 32) : Nat) : Int)
  setLo d i v := if i < 32 then d.set i.toNat v.toNat else d
  setHi e i v := if i < 32 then e else e.set (i.toNat - 32) v.toNat
  copyD d lo hi l := copyFrom d lo.toNat hi.toNat l
  all32 l := l.all fun v => decide (0 ≤ v) && decide (v < 4294967296)
  rep n x := List.replicate n.toNat x
  ssub s lo hi := s.extract lo.toNat hi.toNat
  scat a b := a ++ b
  ofB l := l.foldl (fun r n => r.push (UInt8.ofNat n.toNat)) ByteArray.empty

def addOff : Value → Nat → Value
  | .pointer (some a), n => .pointer (some (a.add n))
  | v, _ => v

abbrev Rho := Nat → Value
def rho0 : Rho := fun _ => .pointer none

def Sc.den (ρ : Rho) : Sc → Value
  | .lit k n => .int k n
  | .int k n => .int k n
  | .tt b => .bool b
  | .bool b => .bool b
  | .str s => .string s
  | .hp id off => addOff (ρ id) off
  | .pe id base esz i off => addOff (ρ id) (base + i.toNat * esz + off)
  | .hs id => ρ id
  | .ve id esz i off => match ρ id with
    | .slice (some a) _ _ => .pointer (some (a.add (i.toNat * esz + off)))
    | v => v
  | .hw id esz lo hi => match ρ id with
    | .slice a _ cap => .slice (if cap = lo.toNat then a else a.map (·.add (lo.toNat * esz))) (hi.toNat - lo.toNat) (cap - lo.toNat)
    | v => v
  | .ha id off esz lo hi cap => match ρ id with
    | .pointer (some a) => .slice (some (if cap = lo.toNat then a.add off else a.add (off + lo.toNat * esz))) (hi.toNat - lo.toNat) (cap - lo.toNat)
    | v => v
  | .hm id => ρ id
  | .nilp => .pointer none
  | .nils => .slice none 0 0
  | .nilm => .map none
  | .fn f caps => .func (.func f) #[] (caps.map fun c => addOff (ρ c.1) c.2).toArray
  | .un => undef

def Dg.cells (d : Dg) : List Value := (List.range 32).map fun i => .int .u32 (d.dig i : Nat)
def Wd.cells (w : Wd) : List Value := .bool w.neg :: w.d.cells
def Rt.cells (r : Rt) : List Value := r.N.cells ++ r.D.cells
def Pt.cells (p : Pt) : List Value := p.X.cells ++ p.Y.cells

def At.cells (ρ : Rho) : At → List Value
  | .s x => [x.den ρ]
  | .D d => d.cells
  | .W w => w.cells
  | .R r => r.cells
  | .P p => p.cells

def flats (ρ : Rho) : List At → List Value
  | [] => []
  | a :: r => a.cells ρ ++ flats ρ r

def CV.den (ρ : Rho) : CV → Value
  | .s x => x.den ρ
  | .g l => .agg (flats ρ l).toArray

def XV.den (ρ : Rho) : XV → Value
  | .c v => v.den ρ
  | .t l => .tuple (l.map (CV.den ρ)).toArray

@[simp] theorem Dg.cells_length (d : Dg) : d.cells.length = 32 := by simp [Dg.cells]
@[simp] theorem Wd.cells_length (w : Wd) : w.cells.length = 33 := by simp [Wd.cells]
@[simp] theorem Rt.cells_length (r : Rt) : r.cells.length = 66 := by simp [Rt.cells]
@[simp] theorem Pt.cells_length (p : Pt) : p.cells.length = 132 := by simp [Pt.cells]
@[simp] theorem At.cells_length (ρ : Rho) (a : At) : (a.cells ρ).length = a.size := by cases a <;> simp [At.cells, At.size]

@[simp] theorem flats_length (ρ : Rho) (l : List At) : (flats ρ l).length = sizes l := by
  induction l with
  | nil => rfl
  | cons a r ih => simp [flats, sizes, ih]

theorem flats_append (ρ : Rho) (l m : List At) : flats ρ (l ++ m) = flats ρ l ++ flats ρ m := by
  induction l with
  | nil => rfl
  | cons a r ih => simp [flats, ih]

theorem At.expand_cells (ρ : Rho) {a : At} {l : List At} (h : a.expand = some l) : flats ρ l = a.cells ρ := by
  cases a <;> simp [At.expand] at h <;> subst h <;> simp [flats, At.cells, Wd.cells, Rt.cells, Pt.cells, Sc.den]

theorem At.expand_sizes {a : At} {l : List At} (h : a.expand = some l) : sizes l = a.size := by
  cases a <;> simp [At.expand] at h <;> subst h <;> simp [sizes, At.size]

theorem sizes_append (l m : List At) : sizes (l ++ m) = sizes l + sizes m := by
  induction l with
  | nil => simp [sizes]
  | cons a r ih => simp [sizes, ih, Nat.add_assoc]

theorem dropA_flats (ρ : Rho) : ∀ (fuel n : Nat) (l m : List At), dropA fuel n l = some m → n ≤ sizes l ∧ flats ρ m = (flats ρ l).drop n := by
  intro fuel
  induction fuel with
  | zero =>
    intro n l m h
    cases n with
    | zero => simp [dropA] at h; subst h; simp
    | succ n => simp [dropA] at h
  | succ fuel ih =>
    intro n l m h
    cases n with
    | zero => simp [dropA] at h; subst h; simp
    | succ n =>
      cases l with
      | nil => simp [dropA] at h
      | cons a r =>
        simp only [dropA] at h
        split at h
        · rename_i hle
          obtain ⟨h1, h2⟩ := ih _ _ _ h
          refine ⟨by simp [sizes]; omega, ?_⟩
          rw [h2]
          simp only [flats]
          have e : (a.cells ρ).drop (n + 1) = [] := List.drop_eq_nil_of_le (by simp; omega)
          rw [List.drop_append, e]
          simp
        · rename_i hle
          split at h
          · rename_i ex hex
            obtain ⟨h1, h2⟩ := ih _ _ _ h
            rw [sizes_append, At.expand_sizes hex] at h1
            refine ⟨by simp [sizes]; omega, ?_⟩
            rw [h2, flats_append, At.expand_cells ρ hex]; rfl
          · simp at h

theorem takeA_flats (ρ : Rho) : ∀ (fuel n : Nat) (l m : List At), takeA fuel n l = some m → n ≤ sizes l ∧ flats ρ m = (flats ρ l).take n := by
  intro fuel
  induction fuel with
  | zero =>
    intro n l m h
    cases n with
    | zero => simp [takeA] at h; subst h; simp [flats]
    | succ n => simp [takeA] at h
  | succ fuel ih =>
    intro n l m h
    cases n with
    | zero => simp [takeA] at h; subst h; simp [flats]
    | succ n =>
      cases l with
      | nil => simp [takeA] at h
      | cons a r =>
        simp only [takeA] at h
        split at h
        · rename_i hle
          split at h
          · rename_i l' hl'
            obtain ⟨h1, h2⟩ := ih _ _ _ hl'
            simp only [Option.some.injEq] at h
            subst h
            refine ⟨by simp [sizes]; omega, ?_⟩
            simp only [flats]
            have e : (a.cells ρ).take (n + 1) = a.cells ρ := List.take_of_length_le (by simp; omega)
            rw [h2, List.take_append, e]
            simp
          · simp at h
        · rename_i hle
          split at h
          · rename_i ex hex
            obtain ⟨h1, h2⟩ := ih _ _ _ h
            rw [sizes_append, At.expand_sizes hex] at h1
            refine ⟨by simp [sizes]; omega, ?_⟩
            rw [h2, flats_append, At.expand_cells ρ hex]; rfl
          · simp at h

theorem subA_flats (ρ : Rho) {l m : List At} {off n : Nat} (h : subA l off n = some m) :
    off + n ≤ sizes l ∧ flats ρ m = ((flats ρ l).drop off).take n := by
  unfold subA at h
  split at h
  · rename_i r hr
    obtain ⟨h1, h2⟩ := dropA_flats ρ _ _ _ _ hr
    obtain ⟨h3, h4⟩ := takeA_flats ρ _ _ _ _ h
    have : sizes r = sizes l - off := by rw [← flats_length ρ r, h2]; simp
    exact ⟨by omega, by rw [h4, h2]⟩
  · simp at h

theorem fold_flats (ρ : Rho) (f : At → List At → List At) (hf : ∀ a r, flats ρ (f a r) = flats ρ (a :: r)) (l : List At) : flats ρ (fold f l) = flats ρ l := by
  induction l with
  | nil => rfl
  | cons a r ih => simp only [fold]; rw [hf]; simp [flats, ih]

theorem merge_flats (ρ : Rho) (l : List At) : flats ρ (merge l) = flats ρ l := by
  unfold merge
  rw [fold_flats, fold_flats, fold_flats]
  · intro a r; unfold mcons; split <;> simp [flats, At.cells, Wd.cells, Sc.den]
  · intro a r; unfold mWs; split <;> simp [flats, At.cells, Rt.cells]
  · intro a r; unfold mRs; split <;> simp [flats, At.cells, Pt.cells]

theorem merge_sizes (l : List At) : sizes (merge l) = sizes l := by
  have := congrArg List.length (merge_flats (fun _ => undef) l)
  simpa using this

theorem updA_flats (ρ : Rho) {l m new : List At} {off : Nat} (h : updA l off new = some m) :
    off + sizes new ≤ sizes l ∧ flats ρ m = (flats ρ l).take off ++ (flats ρ new ++ (flats ρ l).drop (off + sizes new)) := by
  unfold updA at h
  split at h
  · rename_i a b ha hb
    obtain ⟨h1, h2⟩ := takeA_flats ρ _ _ _ _ ha
    obtain ⟨h3, h4⟩ := dropA_flats ρ _ _ _ _ hb
    simp only [Option.some.injEq] at h
    subst h
    exact ⟨h3, by rw [merge_flats, flats_append, flats_append, h2, h4]⟩
  · simp at h

theorem updA_sizes {l m new : List At} {off : Nat} (h : updA l off new = some m) : sizes m = sizes l := by
  obtain ⟨h1, h2⟩ := updA_flats (fun _ => undef) h
  have := congrArg List.length h2
  simp at this
  omega

/-! stability: a value names only handles of a set -/
abbrev Ids := Nat → Prop

def Agree (n : Ids) (ρ ρ' : Rho) : Prop := ∀ i, n i → ρ' i = ρ i

theorem Agree.refl (n : Ids) (ρ : Rho) : Agree n ρ ρ := fun _ _ => rfl
theorem Agree.trans {n m : Ids} {a b c : Rho} (h : Agree n a b) (h' : Agree m b c) (hm : ∀ i, n i → m i) : Agree n a c :=
  fun i hi => (h' i (hm i hi)).trans (h i hi)
theorem Agree.mono {n m : Ids} {a b : Rho} (h : Agree m a b) (hm : ∀ i, n i → m i) : Agree n a b := fun i hi => h i (hm i hi)
theorem Agree.symm {n : Ids} {a b : Rho} (h : Agree n a b) : Agree n b a := fun i hi => (h i hi).symm

/-- the set, and k more from m on -/
def addI (n : Ids) (m k : Nat) : Ids := fun i => n i ∨ (m ≤ i ∧ i < m + k)

/-- what a value stands for hangs on the handles of the set alone -/
def StbV (n : Ids) (ρ : Rho) (v : CV) : Prop := ∀ ρ', Agree n ρ ρ' → v.den ρ' = v.den ρ
def StbL (n : Ids) (ρ : Rho) (l : List At) : Prop := ∀ ρ', Agree n ρ ρ' → flats ρ' l = flats ρ l
def StbX (n : Ids) (ρ : Rho) (v : XV) : Prop := ∀ ρ', Agree n ρ ρ' → v.den ρ' = v.den ρ

theorem StbX.mono {n m : Ids} {ρ : Rho} {v : XV} (h : StbX n ρ v) (hm : ∀ i, n i → m i) : StbX m ρ v := fun _ ha => h _ (ha.mono hm)
theorem StbX.move {n : Ids} {ρ ρ' : Rho} {v : XV} (h : StbX n ρ v) (ha : Agree n ρ ρ') : StbX n ρ' v :=
  fun ρ'' hb => (h ρ'' (ha.trans hb fun _ h => h)).trans (h ρ' ha).symm
theorem StbL.mono {n m : Ids} {ρ : Rho} {v : List At} (h : StbL n ρ v) (hm : ∀ i, n i → m i) : StbL m ρ v := fun _ ha => h _ (ha.mono hm)
theorem StbL.move {n : Ids} {ρ ρ' : Rho} {v : List At} (h : StbL n ρ v) (ha : Agree n ρ ρ') : StbL n ρ' v :=
  fun ρ'' hb => (h ρ'' (ha.trans hb fun _ h => h)).trans (h ρ' ha).symm
theorem StbV.mono {n m : Ids} {ρ : Rho} {v : CV} (h : StbV n ρ v) (hm : ∀ i, n i → m i) : StbV m ρ v := fun _ ha => h _ (ha.mono hm)
theorem StbV.move {n : Ids} {ρ ρ' : Rho} {v : CV} (h : StbV n ρ v) (ha : Agree n ρ ρ') : StbV n ρ' v :=
  fun ρ'' hb => (h ρ'' (ha.trans hb fun _ h => h)).trans (h ρ' ha).symm

end Go.Eng
