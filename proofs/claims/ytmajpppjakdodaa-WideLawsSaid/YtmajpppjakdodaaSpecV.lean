/- Rows of words as numbers; what the functions on words tell. -/
import Derived.Test.YtmajpppjakdodaaCellSA
set_option linter.all false
set_option exponentiation.threshold 3000
namespace Go.Eng
set_option maxRecDepth 100000

/-- a row of words, the lowest first, as a number -/
def valL : List Int → Nat
  | [] => 0
  | v :: r => v.toNat + 2 ^ 32 * valL r

/-- k words of a number -/
def digL (n : Nat) : Nat → List Int
  | 0 => []
  | k + 1 => ((n % 2 ^ 32 : Nat) : Int) :: digL (n / 2 ^ 32) k

def W32 (l : List Int) : Prop := ∀ v, v ∈ l → 0 ≤ v ∧ v < 4294967296

theorem W32.nil : W32 [] := fun v h => by simp at h
theorem W32.cons {v : Int} {l : List Int} (h1 : 0 ≤ v ∧ v < 4294967296) (h2 : W32 l) : W32 (v :: l) := fun u hu => by
  simp only [List.mem_cons] at hu
  rcases hu with rfl | hu
  · exact h1
  · exact h2 u hu
theorem W32.app {l m : List Int} (h1 : W32 l) (h2 : W32 m) : W32 (l ++ m) := fun u hu => by
  rcases List.mem_append.1 hu with h | h
  · exact h1 u h
  · exact h2 u h
theorem W32.take {l : List Int} (h : W32 l) (k : Nat) : W32 (l.take k) := fun u hu => h u (List.mem_of_mem_take hu)
theorem W32.drop {l : List Int} (h : W32 l) (k : Nat) : W32 (l.drop k) := fun u hu => h u (List.mem_of_mem_drop hu)
theorem W32.getD {l : List Int} (h : W32 l) (k : Nat) : 0 ≤ l.getD k 0 ∧ l.getD k 0 < 4294967296 := by
  rw [List.getD]
  cases hk : l[k]? with
  | none => simp
  | some v => exact h v (List.mem_of_getElem? hk)
theorem W32.set {l : List Int} (h : W32 l) (k : Nat) {v : Int} (hv : 0 ≤ v ∧ v < 4294967296) : W32 (l.set k v) := fun u hu => by
  rcases List.mem_or_eq_of_mem_set hu with h1 | rfl
  · exact h u h1
  · exact hv
theorem W32.all {l : List Int} (h : stdA.all32 l = true) : W32 l := fun v hv => by
  have := List.all_eq_true.1 h v hv
  simpa using this
theorem W32.all' {l : List Int} (h : W32 l) : stdA.all32 l = true := List.all_eq_true.2 fun v hv => by have := h v hv; simp [this.1, this.2]

theorem valL_append (l m : List Int) : valL (l ++ m) = valL l + 2 ^ (32 * l.length) * valL m := by
  induction l with
  | nil => simp [valL]
  | cons v r ih =>
    simp only [List.cons_append, valL, ih, List.length_cons]
    rw [show 32 * (r.length + 1) = 32 + 32 * r.length from by omega, Nat.pow_add, Nat.mul_add, Nat.mul_assoc]
    omega

theorem valL_lt {l : List Int} (h : W32 l) : valL l < 2 ^ (32 * l.length) := by
  induction l with
  | nil => simp [valL]
  | cons v r ih =>
    have h1 := ih fun u hu => h u (List.mem_cons_of_mem _ hu)
    have h2 := h v (List.mem_cons_self ..)
    simp only [valL, List.length_cons]
    rw [show 32 * (r.length + 1) = 32 + 32 * r.length from by omega, Nat.pow_add]
    generalize 2 ^ (32 * r.length) = P at h1 ⊢
    omega

theorem valL_split (l : List Int) (k : Nat) : valL l = valL (l.take k) + 2 ^ (32 * (l.take k).length) * valL (l.drop k) := by
  rw [← valL_append, List.take_append_drop]

theorem valL_snoc (l : List Int) (v : Int) : valL (l ++ [v]) = valL l + 2 ^ (32 * l.length) * v.toNat := by
  rw [valL_append]; simp [valL]

theorem digL_length (n k : Nat) : (digL n k).length = k := by
  induction k generalizing n with
  | zero => rfl
  | succ k ih => simp [digL, ih]

theorem digL_W32 (n k : Nat) : W32 (digL n k) := by
  induction k generalizing n with
  | zero => exact W32.nil
  | succ k ih => exact W32.cons (by omega) (ih _)

theorem valL_digL (n k : Nat) (h : n < 2 ^ (32 * k)) : valL (digL n k) = n := by
  induction k generalizing n with
  | zero => simp at h; subst h; rfl
  | succ k ih =>
    have h1 : n / 2 ^ 32 < 2 ^ (32 * k) := by
      rw [Nat.div_lt_iff_lt_mul (by decide), ← Nat.pow_add]
      rwa [show 32 * k + 32 = 32 * (k + 1) from by omega]
    simp only [digL, valL, ih _ h1]
    omega

theorem digL_valL {l : List Int} (h : W32 l) : digL (valL l) l.length = l := by
  induction l with
  | nil => rfl
  | cons v r ih =>
    have h2 := h v (List.mem_cons_self ..)
    simp only [valL, List.length_cons, digL]
    have e1 : (v.toNat + 2 ^ 32 * valL r) % 2 ^ 32 = v.toNat := by omega
    have e2 : (v.toNat + 2 ^ 32 * valL r) / 2 ^ 32 = valL r := by omega
    rw [e1, e2, ih fun u hu => h u (List.mem_cons_of_mem _ hu)]
    congr 1; omega

/-- rows of words of one length with one value are one -/
theorem valL_inj {l m : List Int} (hl : W32 l) (hm : W32 m) (h1 : l.length = m.length) (h2 : valL l = valL m) : l = m := by
  rw [← digL_valL hl, ← digL_valL hm, h1, h2]

theorem digL_getD (n : Nat) : ∀ (k i : Nat), i < k → (digL n k).getD i 0 = ((n / 2 ^ (32 * i) % 2 ^ 32 : Nat) : Int)
  | 0, i, h => by omega
  | k + 1, 0, _ => by simp [digL]
  | k + 1, i + 1, h => by
    simp only [digL, List.getD_cons_succ]
    rw [digL_getD (n / 2 ^ 32) k i (by omega), Nat.div_div_eq_div_mul, ← Nat.pow_add, show 32 + 32 * i = 32 * (i + 1) from by omega]

theorem getD_W32 {l : List Int} (h : W32 l) {i : Nat} (hi : i < l.length) : l.getD i 0 = ((valL l / 2 ^ (32 * i) % 2 ^ 32 : Nat) : Int) := by
  have := digL_getD (valL l) l.length i hi
  rwa [digL_valL h] at this

/-- a part of a row, as a number -/
theorem valL_take {l : List Int} (h : W32 l) (k : Nat) (hk : k ≤ l.length) : valL (l.take k) = valL l % 2 ^ (32 * k) := by
  have h1 := valL_split l k
  have h2 := valL_lt (h.take k)
  rw [List.length_take, Nat.min_eq_left hk] at h1 h2
  rw [h1, Nat.add_mul_mod_self_left, Nat.mod_eq_of_lt h2]

theorem valL_drop {l : List Int} (h : W32 l) (k : Nat) (hk : k ≤ l.length) : valL (l.drop k) = valL l / 2 ^ (32 * k) := by
  have h1 := valL_split l k
  have h2 := valL_lt (h.take k)
  rw [List.length_take, Nat.min_eq_left hk] at h1 h2
  rw [h1, Nat.add_mul_div_left _ _ (Nat.two_pow_pos _), Nat.div_eq_of_lt h2, Nat.zero_add]

theorem digs_eq (d : Dg) (lo hi : Int) : stdA.digs d lo hi = (List.range (hi.toNat - lo.toNat)).map fun i => ((d.dig (lo.toNat + i) : Nat) : Int) := rfl

theorem digL_range (n : Nat) : ∀ k, digL n k = (List.range k).map fun i => ((n / 2 ^ (32 * i) % 2 ^ 32 : Nat) : Int)
  | 0 => rfl
  | k + 1 => by
    rw [List.range_succ_eq_map, List.map_cons, List.map_map, digL, digL_range (n / 2 ^ 32) k]
    congr 1
    · simp
    · apply List.map_congr_left
      intro i _
      simp only [Function.comp]
      rw [Nat.div_div_eq_div_mul, ← Nat.pow_add, show 32 + 32 * i = 32 * Nat.succ i from by omega]

/-- the first words of an array -/
theorem digs_zero (d : Dg) (k : Int) : stdA.digs d 0 k = digL d.n k.toNat := by
  rw [digs_eq, digL_range]
  simp [Dg.dig]

theorem set_mid {α : Type} (a p q : List α) (x v : α) : (a ++ (p ++ x :: q)).set (a.length + p.length) v = a ++ (p ++ v :: q) := by
  rw [List.set_append_right _ _ (by omega), show a.length + p.length - a.length = p.length from by omega, List.set_append_right _ _ (by omega), Nat.sub_self]
  rfl

theorem mod_step (s t P : Nat) (hP : 0 < P) : (s + P * t) % (P * 2 ^ 32) = s % P + P * ((s / P + t) % 2 ^ 32) ∧ (s + P * t) / (P * 2 ^ 32) = (s / P + t) / 2 ^ 32 := by
  have e1 : (s + P * t) % P = s % P := Nat.add_mul_mod_self_left s P t
  have e2 : (s + P * t) / P = s / P + t := Nat.add_mul_div_left s t hP
  constructor
  · rw [Nat.mod_mul, e1, e2]
  · rw [← Nat.div_div_eq_div_mul, e2]

theorem pow_step (k : Nat) : 2 ^ (32 * (k + 1)) = 2 ^ (32 * k) * 2 ^ 32 := by rw [← Nat.pow_add]; congr 1

/-! numbers below a power: setting the word behind them -/
theorem Dg.set_top (d : Dg) (i v : Nat) (hi : i < 32) (hv : v < 2 ^ 32) (hd : d.n < 2 ^ (32 * i)) : (d.set i v).n = d.n + 2 ^ (32 * i) * v := by
  rw [Dg.set_n _ _ _ hi hv, Nat.div_eq_of_lt hd, Nat.mod_eq_of_lt hd]
  simp; omega

theorem low_dig (d : Dg) (i : Nat) : d.n % 2 ^ (32 * (i + 1)) = d.n % 2 ^ (32 * i) + 2 ^ (32 * i) * d.dig i := by
  unfold Dg.dig
  rw [show 32 * (i + 1) = 32 * i + 32 from by omega, Nat.pow_add, Nat.mod_mul]

theorem ext_low (d : Dg) : d.n % 2 ^ (32 * 32) = d.n := Nat.mod_eq_of_lt d.lt

theorem plus_step (d e out : Dg) (k c : Nat) (hk : k < 32) (h1 : out.n = (d.n % 2 ^ (32 * k) + e.n % 2 ^ (32 * k)) % 2 ^ (32 * k)) (h2 : c = (d.n % 2 ^ (32 * k) + e.n % 2 ^ (32 * k)) / 2 ^ (32 * k)) :
    (out.set k ((d.dig k + e.dig k + c) % 4294967296)).n = (d.n % 2 ^ (32 * (k + 1)) + e.n % 2 ^ (32 * (k + 1))) % 2 ^ (32 * (k + 1)) ∧ (d.dig k + e.dig k + c) / 4294967296 = (d.n % 2 ^ (32 * (k + 1)) + e.n % 2 ^ (32 * (k + 1))) / 2 ^ (32 * (k + 1)) := by
  have hP := Nat.two_pow_pos (32 * k)
  have hlt : out.n < 2 ^ (32 * k) := by rw [h1]; exact Nat.mod_lt _ hP
  rw [Dg.set_top out k _ hk (by omega) hlt, low_dig d k, low_dig e k, pow_step k, h1, h2]
  generalize 2 ^ (32 * k) = P at hP ⊢
  have e1 : d.n % P + P * d.dig k + (e.n % P + P * e.dig k) = (d.n % P + e.n % P) + P * (d.dig k + e.dig k) := by rw [Nat.mul_add]; omega
  obtain ⟨m1, m2⟩ := mod_step (d.n % P + e.n % P) (d.dig k + e.dig k) P hP
  rw [e1, m1, m2]
  have e2 : d.dig k + e.dig k + (d.n % P + e.n % P) / P = (d.n % P + e.n % P) / P + (d.dig k + e.dig k) := by omega
  rw [e2]
  exact ⟨rfl, rfl⟩

theorem carry_le (d e P : Nat) (hP : 0 < P) : (d % P + e % P) / P ≤ 1 := by
  have h1 := Nat.mod_lt d hP
  have h2 := Nat.mod_lt e hP
  have : (d % P + e % P) / P < 2 := by rw [Nat.div_lt_iff_lt_mul hP]; omega
  omega

/-- a difference, word by word: what was lent -/
theorem less_step (d e out : Dg) (k : Nat) (c x : Int) (hk : k < 32) (hc0 : 0 ≤ c) (hc1 : c ≤ 1) (hlt : out.n < 2 ^ (32 * k)) (h1 : (out.n : Int) = (d.n % 2 ^ (32 * k) : Nat) - (e.n % 2 ^ (32 * k) : Nat) + (2 ^ (32 * k) : Nat) * c) (hx : x = (d.dig k : Nat) - (e.dig k : Nat) - c) :
    ((out.set k (x % 4294967296).toNat).n : Int) = (d.n % 2 ^ (32 * (k + 1)) : Nat) - (e.n % 2 ^ (32 * (k + 1)) : Nat) + (2 ^ (32 * (k + 1)) : Nat) * (if x < 0 then 1 else 0) ∧ (out.set k (x % 4294967296).toNat).n < 2 ^ (32 * (k + 1)) := by
  have hd := dig_lt d k
  have he := dig_lt e k
  have hs := Dg.set_top out k (x % 4294967296).toNat hk (by omega) hlt
  have hv : (x % 4294967296).toNat < 2 ^ 32 := by omega
  constructor
  · rw [hs, low_dig d k, low_dig e k, pow_step k]
    have hy : ((x % 4294967296).toNat : Int) = x + 4294967296 * (if x < 0 then 1 else 0) := by split <;> omega
    generalize 2 ^ (32 * k) = P at h1 ⊢
    rw [Int.natCast_add, h1, Int.natCast_mul, hy, Int.natCast_add, Int.natCast_add, Int.natCast_mul, Int.natCast_mul, Int.natCast_mul, hx]
    grind
  · rw [hs, pow_step]
    generalize 2 ^ (32 * k) = P at hlt ⊢
    have : P * (x % 4294967296).toNat ≤ P * (2 ^ 32 - 1) := Nat.mul_le_mul_left _ (by omega)
    rw [Nat.mul_sub] at this
    have h3 : P * 1 ≤ P * 2 ^ 32 := Nat.mul_le_mul_left _ (by decide)
    omega

/-- numbers of the language's kind, as whole numbers -/
def ofZ (z : Int) : Wd := tld (decide (z < 0)) (mk1024 z.natAbs)
def fitZ (z : Int) : Bool := decide (z.natAbs < 2 ^ 1024)

theorem wval_ofZ {z : Int} (h : fitZ z = true) : wval (ofZ z) = z := by
  have h' : z.natAbs < 2 ^ 1024 := of_decide_eq_true h
  have h1 : (mk1024 z.natAbs).n = z.natAbs := Nat.mod_eq_of_lt h'
  have e : (decide (z < 0) && decide (z.natAbs ≠ 0)) = decide (z < 0) := by
    by_cases hz : z < 0
    · have : z.natAbs ≠ 0 := by omega
      simp [this]
    · simp [hz]
  show (if (decide (z < 0) && decide ((mk1024 z.natAbs).n ≠ 0)) = true then -((mk1024 z.natAbs).n : Int) else ((mk1024 z.natAbs).n : Int)) = z
  rw [h1, e]
  by_cases hz : z < 0
  · rw [if_pos (decide_eq_true hz)]; omega
  · rw [if_neg (by simpa using hz)]; omega

/-- 0 isn't Neg -/
def isWd (w : Wd) : Bool := !w.neg || decide (w.d.n ≠ 0)

theorem ofZ_wval {w : Wd} (h : isWd w = true) : ofZ (wval w) = w := by
  obtain ⟨b, d⟩ := w
  have h1 := d.lt
  cases b
  · have : (mk1024 (wval ⟨false, d⟩).natAbs) = d := Dg.ext' (by show (d.n : Int).natAbs % 2 ^ 1024 = d.n; rw [Int.natAbs_natCast]; exact Nat.mod_eq_of_lt h1)
    unfold ofZ
    rw [this]
    have : decide (wval ⟨false, d⟩ < 0) = false := by simp [wval]
    rw [this]; rfl
  · have h2 : d.n ≠ 0 := by simpa [isWd] using h
    have : (mk1024 (wval ⟨true, d⟩).natAbs) = d := Dg.ext' (by show (-(d.n : Int)).natAbs % 2 ^ 1024 = d.n; rw [Int.natAbs_neg, Int.natAbs_natCast]; exact Nat.mod_eq_of_lt h1)
    unfold ofZ
    rw [this]
    have : decide (wval ⟨true, d⟩ < 0) = true := by simp [wval]; omega
    rw [this]; simp [tld, h2]

theorem isWd_ofZ (z : Int) : isWd (ofZ z) = true := by
  unfold ofZ tld isWd
  simp only [Bool.not_and, Bool.or_eq_true, Bool.not_eq_true', decide_eq_true_eq, decide_eq_false_iff_not]
  by_cases h : (mk1024 z.natAbs).n ≠ 0
  · exact .inr h
  · exact .inl (.inr h)

theorem fitZ_wval (w : Wd) : fitZ (wval w) = true := by
  obtain ⟨b, d⟩ := w
  have := d.lt
  apply decide_eq_true
  cases b <;> simp [wval] <;> exact this

/-- told of a sign and an amount -/
theorem tld_ofZ (b : Bool) (d : Dg) : tld b d = ofZ (if b then -(d.n : Int) else d.n) := by
  have h := d.lt
  have e : (mk1024 d.n) = d := Dg.ext' (Nat.mod_eq_of_lt h)
  cases b
  · simp only [Bool.false_eq_true, if_false]
    unfold ofZ
    rw [Int.natAbs_natCast, e]
    have : decide ((d.n : Int) < 0) = false := by simp
    rw [this]
  · simp only [if_true]
    unfold ofZ
    rw [Int.natAbs_neg, Int.natAbs_natCast, e]
    unfold tld
    by_cases h0 : d.n = 0
    · simp [h0]
    · have : decide (-(d.n : Int) < 0) = true := by simp; omega
      rw [this]

theorem wbelow_eq (w : Wd) : wbelow w = decide (wval w < 0) := by
  obtain ⟨b, d⟩ := w
  cases b
  · simp [wbelow, wval]
  · by_cases h : d.n = 0
    · simp [wbelow, wval, h]
    · have : 0 < d.n := by omega
      simp [wbelow, wval, h, this]

theorem wval_abs (w : Wd) : (wval w).natAbs = w.d.n := by
  obtain ⟨b, d⟩ := w
  cases b <;> simp [wval]

theorem wval_if (w : Wd) : wval w = if wbelow w then -(w.d.n : Int) else w.d.n := by
  obtain ⟨b, d⟩ := w
  cases b
  · simp [wbelow, wval]
  · by_cases h : d.n = 0 <;> simp [wbelow, wval, h]

/-- the guess of a quotient's word: three words by two -/
def kGuess (u v : List Int) : Nat := min 4294967295 (((u.getD 2 0).toNat * 2 ^ 64 + (u.getD 1 0).toNat * 2 ^ 32 + (u.getD 0 0).toNat) / ((v.getD 1 0).toNat * 2 ^ 32 + (v.getD 0 0).toNat))

/-- a window of a row, another row in its place -/
def winS (l : List Int) (lo hi : Nat) (m : List Int) : List Int := l.take lo ++ (m ++ l.drop hi)
def winV (l : List Int) (lo hi : Nat) : Nat := valL ((l.drop lo).take (hi - lo))

structure SV where
  adds : Int → Int → Int → Int
  addc : Int → Int → Int → Int
  subs : Int → Int → Int → Int
  subc : Int → Int → Int → Int
  divq : Int → Int → Int → Int
  divr : Int → Int → Int → Int
  lz : Int → Int
  plus : Dg → Dg → Dg
  plusOK : Dg → Dg → Bool
  less : Dg → Dg → Dg
  leD : Dg → Dg → Bool
  byQ : Dg → Int → Dg
  byR : Dg → Int → Int
  shl : List Int → Int → List Int
  guess : List Int → List Int → Int
  guessOK : List Int → List Int → Bool
  takesL : List Int → Int → Int → List Int → Int → List Int
  takesB : List Int → Int → Int → List Int → Int → Bool
  givesL : List Int → Int → Int → List Int → List Int
  divQ : Dg → Dg → Dg
  divR : Dg → Dg → Dg
  two : Dg → Bool
  add : Wd → Wd → Wd
  addOK : Wd → Wd → Bool
  sub : Wd → Wd → Wd
  subOK : Wd → Wd → Bool
  mul : Wd → Wd → Wd
  mulOK : Wd → Wd → Bool
  dmQ : Wd → Wd → Wd
  dmR : Wd → Wd → Wd
  dmOK : Wd → Bool
  gcd : Wd → Wd → Wd
  shift : Wd → Int → Wd
  shiftOK : Wd → Int → Bool
  toInt : Wd → Int
  isInt : Wd → Bool

def pick (b : Bool) (z : Int) : Wd := if b then ofZ z else ⟨false, Dg.zero⟩
def clampZ (n : Int) : Nat := min n.toNat 1024

def stdV : SV where
  adds x y c := (x + y + c) % 4294967296
  addc x y c := (x + y + c) / 4294967296
  subs x y c := (x - y - c) % 4294967296
  subc x y c := if x - y - c < 0 then 1 else 0
  divq h l d := (h * 4294967296 + l) / d
  divr h l d := (h * 4294967296 + l) % d
  lz n := 32 - ((lenOf n.toNat : Nat) : Int)
  plus a b := mk1024 (a.n + b.n)
  plusOK a b := decide (a.n + b.n < 2 ^ 1024)
  less a b := ⟨a.n - b.n, Nat.lt_of_le_of_lt (Nat.sub_le _ _) a.lt⟩
  leD a b := decide (a.n ≤ b.n)
  byQ a d := ⟨a.n / d.toNat, Nat.lt_of_le_of_lt (Nat.div_le_self _ _) a.lt⟩
  byR a d := ((a.n % d.toNat : Nat) : Int)
  shl l n := digL (2 ^ n.toNat * valL l) (l.length + 1)
  guess u v := kGuess u v
  guessOK u v := decide (3 ≤ u.length) && decide (2 ≤ v.length) && decide (1 ≤ v.getD 1 0) && decide (u.getD 2 0 ≤ v.getD 1 0) && stdA.all32 u && stdA.all32 v
  takesL l lo hi v q := winS l lo.toNat hi.toNat (digL ((2 ^ (32 * (v.length + 1)) * 2 ^ 64 + winV l lo.toNat hi.toNat - q.toNat * valL v) % 2 ^ (32 * (v.length + 1))) (v.length + 1))
  takesB l lo hi v q := decide (q.toNat * valL v ≤ winV l lo.toNat hi.toNat)
  givesL l lo hi v := winS l lo.toNat hi.toNat (digL ((winV l lo.toNat hi.toNat + valL v) % 2 ^ (32 * (v.length + 1))) (v.length + 1))
  divQ a b := ⟨a.n / b.n, Nat.lt_of_le_of_lt (Nat.div_le_self _ _) a.lt⟩
  divR a b := ⟨a.n % b.n, Nat.lt_of_le_of_lt (Nat.mod_le _ _) a.lt⟩
  two a := decide (2 ^ 32 ≤ a.n)
  add a b := pick (fitZ (wval a + wval b)) (wval a + wval b)
  addOK a b := fitZ (wval a + wval b)
  sub a b := pick (fitZ (wval a - wval b)) (wval a - wval b)
  subOK a b := fitZ (wval a - wval b)
  mul a b := pick (fitZ (wval a * wval b)) (wval a * wval b)
  mulOK a b := fitZ (wval a * wval b)
  dmQ a b := pick (decide (wval b ≠ 0)) ((wval a).tdiv (wval b))
  dmR a b := pick (decide (wval b ≠ 0)) ((wval a).tmod (wval b))
  dmOK b := decide (wval b ≠ 0)
  gcd a b := ofZ (Int.gcd (wval a) (wval b))
  shift a n := pick (fitZ (wval a * 2 ^ clampZ n)) (wval a * 2 ^ clampZ n)
  shiftOK a n := fitZ (wval a * 2 ^ clampZ n)
  toInt a := if -9223372036854775808 ≤ wval a ∧ wval a < 9223372036854775808 then wval a else 0
  isInt a := decide (-9223372036854775808 ≤ wval a) && decide (wval a < 9223372036854775808)

end Go.Eng
