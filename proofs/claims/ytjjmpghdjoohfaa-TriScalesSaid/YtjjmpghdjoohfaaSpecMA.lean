
import Derived.Test.YtjjmpghdjoohfaaCellSA
import Derived.Test.YtjjmpghdjoohfaaSpecNA
set_option linter.all false
set_option exponentiation.threshold 3000
namespace Go.Eng
set_option maxRecDepth 100000
set_option linter.all false
set_option exponentiation.threshold 3000
def tlen : List Int → Nat
  | [] => 0
  | x :: r => if tlen r = 0 then (if x = 0 then 0 else 1) else tlen r + 1
theorem tlen_of : ∀ (l : List Int) (n : Nat), n ≤ l.length → (∀ i, n ≤ i → i < l.length → l.getD i 0 = 0) → (n = 0 ∨ l.getD (n - 1) 0 ≠ 0) → tlen l = n
  | [], n, h, _, _ => by simp at h; subst h; rfl
  | x :: r, 0, _, hz, _ => by
    have ih := tlen_of r 0 (Nat.zero_le _) (fun i _ h => by have := hz (i + 1) (Nat.zero_le _) (by simpa using h); simpa using this) (.inl rfl)
    have hx : x = 0 := by simpa using hz 0 (Nat.le_refl _) (by simp)
    simp [tlen, ih, hx]
  | x :: r, n + 1, h, hz, hn => by
    have hn' : (x :: r).getD n 0 ≠ 0 := by rcases hn with hn | hn; omega; simpa using hn
    have ih := tlen_of r n (by simpa using h) (fun i h1 h2 => by have := hz (i + 1) (by omega) (by simpa using h2); simpa using this) (by
      cases n with
      | zero => exact .inl rfl
      | succ n => right; simpa using hn')
    cases n with
    | zero =>
      have hx : x ≠ 0 := by simpa using hn'
      simp [tlen, ih, hx]
    | succ n => simp [tlen, ih]
theorem tlen_le : ∀ l : List Int, tlen l ≤ l.length
  | [] => Nat.le_refl _
  | x :: r => by
    have := tlen_le r
    simp only [tlen, List.length_cons]
    split
    · split <;> omega
    · omega
def inR (l : List Int) : Prop := ∀ x, x ∈ l → 0 ≤ x ∧ x < 4294967296
def rng (l : List Int) : Bool := l.all fun x => decide (0 ≤ x) && decide (x < 4294967296)
theorem rng_iff {l : List Int} : rng l = true ↔ inR l := by
  simp only [rng, inR, List.all_eq_true, Bool.and_eq_true, decide_eq_true_eq]
theorem inR.at {l : List Int} (h : inR l) (i : Nat) : 0 ≤ l.getD i 0 ∧ l.getD i 0 < 4294967296 := by
  by_cases hi : i < l.length
  · have : l.getD i 0 ∈ l := by rw [List.getD_eq_getElem?_getD, List.getElem?_eq_getElem hi]; exact List.getElem_mem hi
    exact h _ this
  · rw [List.getD_eq_getElem?_getD, List.getElem?_eq_none (by omega)]; decide
theorem inR.tail {x : Int} {l : List Int} (h : inR (x :: l)) : inR l := fun y hy => h y (List.mem_cons_of_mem _ hy)
theorem inR.head {x : Int} {l : List Int} (h : inR (x :: l)) : 0 ≤ x ∧ x < 4294967296 := h x (List.mem_cons_self ..)
def magN : List Int → Nat
  | [] => 0
  | x :: r => x.toNat + 2 ^ 32 * magN r
theorem magN_lt : ∀ {l : List Int}, inR l → magN l < 2 ^ (32 * l.length)
  | [], _ => by simp [magN]
  | x :: r, h => by
    have ih := magN_lt h.tail
    have hx := h.head
    simp only [magN, List.length_cons]
    rw [show 32 * (r.length + 1) = 32 + 32 * r.length from by omega, Nat.pow_add]
    have : x.toNat < 2 ^ 32 := by omega
    have h2 : 2 ^ 32 * (magN r + 1) ≤ 2 ^ 32 * 2 ^ (32 * r.length) := Nat.mul_le_mul_left _ ih
    omega
theorem magN_append : ∀ (l m : List Int), magN (l ++ m) = magN l + 2 ^ (32 * l.length) * magN m
  | [], m => by simp [magN]
  | x :: r, m => by
    simp only [List.cons_append, magN, magN_append r m, List.length_cons]
    rw [show 32 * (r.length + 1) = 32 + 32 * r.length from by omega, Nat.pow_add, Nat.mul_add, Nat.mul_assoc]
    omega
theorem magN_take (l : List Int) (i : Nat) (h : i < l.length) : magN (l.take (i + 1)) = magN (l.take i) + 2 ^ (32 * i) * (l.getD i 0).toNat := by
  rw [List.take_succ_eq_append_getElem h, magN_append, List.length_take, Nat.min_eq_left (by omega)]
  simp [magN, List.getD_eq_getElem?_getD, List.getElem?_eq_getElem h]
theorem magN_zero : ∀ {l : List Int}, (∀ i, i < l.length → l.getD i 0 = 0) → magN l = 0
  | [], _ => rfl
  | x :: r, h => by
    have h0 : x = 0 := by simpa using h 0 (by simp)
    have := magN_zero (l := r) fun i hi => by simpa using h (i + 1) (by simpa using hi)
    simp [magN, h0, this]
theorem tlen_spec : ∀ (l : List Int), (∀ i, tlen l ≤ i → i < l.length → l.getD i 0 = 0) ∧ (tlen l = 0 ∨ l.getD (tlen l - 1) 0 ≠ 0)
  | [] => ⟨fun i _ h => by simp at h, .inl rfl⟩
  | x :: r => by
    obtain ⟨h1, h2⟩ := tlen_spec r
    have hz := tlen_le r
    by_cases h0 : tlen r = 0
    · by_cases hx : x = 0
      · have e : tlen (x :: r) = 0 := by simp [tlen, h0, hx]
        refine ⟨fun i _ hi => ?_, .inl e⟩
        cases i with
        | zero => simpa using hx
        | succ i => simpa using h1 i (by omega) (by simpa using hi)
      · have e : tlen (x :: r) = 1 := by simp [tlen, h0, hx]
        refine ⟨fun i h hi => ?_, .inr ?_⟩
        · rw [e] at h
          cases i with
          | zero => omega
          | succ i => simpa using h1 i (by omega) (by simpa using hi)
        · rw [e]; simpa using hx
    · have e : tlen (x :: r) = tlen r + 1 := by simp [tlen, h0]
      refine ⟨fun i h hi => ?_, .inr ?_⟩
      · rw [e] at h
        cases i with
        | zero => omega
        | succ i => simpa using h1 i (by omega) (by simpa using hi)
      · rw [e]
        rcases h2 with h2 | h2
        · omega
        · rw [show tlen r + 1 - 1 = (tlen r - 1) + 1 from by omega, List.getD_cons_succ]; exact h2
theorem magN_trim (l : List Int) : magN (l.take (tlen l)) = magN l := by
  have h := (tlen_spec l).1
  have h1 := magN_append (l.take (tlen l)) (l.drop (tlen l))
  rw [List.take_append_drop] at h1
  have h2 : magN (l.drop (tlen l)) = 0 := magN_zero fun i hi => by
    have := h (tlen l + i) (by omega) (by simp only [List.length_drop] at hi; omega)
    simpa [List.getD_eq_getElem?_getD] using this
  rw [h1, h2]; omega
theorem inR.take {l : List Int} (h : inR l) (n : Nat) : inR (l.take n) := fun x hx => h x (List.mem_of_mem_take hx)
theorem inR.drop {l : List Int} (h : inR l) (n : Nat) : inR (l.drop n) := fun x hx => h x (List.mem_of_mem_drop hx)
theorem magN_ge {l : List Int} (hr : inR l) (h : tlen l ≠ 0) : 2 ^ (32 * (tlen l - 1)) ≤ magN l := by
  rw [← magN_trim l]
  obtain ⟨_, h2⟩ := tlen_spec l
  have hl := tlen_le l
  rcases h2 with h2 | h2
  · exact absurd h2 h
  · have e := magN_take l (tlen l - 1) (by omega)
    rw [show tlen l - 1 + 1 = tlen l from by omega] at e
    rw [e]
    have h3 := hr.at (tlen l - 1)
    have : 1 ≤ (l.getD (tlen l - 1) 0).toNat := by omega
    have := Nat.mul_le_mul_left (2 ^ (32 * (tlen l - 1))) this
    omega
theorem magN_tlen_lt {l : List Int} (hr : inR l) : magN l < 2 ^ (32 * tlen l) := by
  have := magN_lt (hr.take (tlen l))
  rw [magN_trim, List.length_take, Nat.min_eq_left (tlen_le l)] at this
  exact this
theorem Dg.set_topX (d : Dg) (i v : Nat) (hd : d.n < 2 ^ (32 * i)) (hi : i < 32) (hv : v < 2 ^ 32) : (d.set i v).n = d.n + 2 ^ (32 * i) * v := by
  rw [Dg.set_n d i v hi hv, Nat.div_eq_of_lt hd, Nat.mod_eq_of_lt hd]
  simp; omega
theorem mk1024_of {n k : Nat} (h : n < 2 ^ k) (hk : k ≤ 1024) : (mk1024 n).n = n := Nat.mod_eq_of_lt (lt_pow h hk)
theorem magN_set (l : List Int) (hr : inR l) (i : Nat) (hi : i < l.length) (h32 : i < 32) : (mk1024 (magN (l.take i))).set i (l.getD i 0).toNat = mk1024 (magN (l.take (i + 1))) := by
  have h1 := magN_lt (hr.take i)
  have h2 := magN_lt (hr.take (i + 1))
  rw [List.length_take, Nat.min_eq_left (by omega)] at h1 h2
  have hw := hr.at i
  apply Dg.ext'
  rw [Dg.set_topX _ _ _ (by rw [mk1024_of h1 (by omega)]; exact h1) h32 (by omega), mk1024_of h1 (by omega), mk1024_of h2 (by omega), magN_take l i hi]
end Go.Eng
set_option linter.all false
set_option exponentiation.threshold 3000
namespace Go.Eng
set_option maxRecDepth 100000
theorem magN_val : ∀ l : List Int, magN l = valL l
  | [] => rfl
  | x :: r => by simp only [magN, valL, magN_val r]
def mWords (n : Nat) : Nat := if n = 0 then 0 else n.log2 / 32 + 1
theorem mWords_lt (n : Nat) : n < 2 ^ (32 * mWords n) := by
  unfold mWords
  split
  · rename_i h; subst h; exact Nat.two_pow_pos _
  · rename_i h
    have h1 := Nat.lt_log2_self (n := n)
    exact Nat.lt_of_lt_of_le h1 (Nat.pow_le_pow_right (by decide) (by omega))
theorem mWords_le {n k : Nat} (h : n < 2 ^ (32 * k)) : mWords n ≤ k := by
  unfold mWords
  split
  · omega
  · rename_i h0
    have h1 := Nat.log2_self_le h0
    have h2 : 2 ^ n.log2 < 2 ^ (32 * k) := Nat.lt_of_le_of_lt h1 h
    have h3 := (Nat.pow_lt_pow_iff_right (by decide)).1 h2
    omega
theorem mWords_zero {n : Nat} : mWords n = 0 ↔ n = 0 := by
  unfold mWords
  constructor
  · intro h; split at h
    · assumption
    · omega
  · intro h; rw [if_pos h]
def magL (n : Nat) : List Int := digL n (mWords n)
theorem magL_len (n : Nat) : (magL n).length = mWords n := digL_length _ _
theorem magL_W32 (n : Nat) : W32 (magL n) := digL_W32 _ _
theorem magL_val (n : Nat) : valL (magL n) = n := valL_digL _ _ (mWords_lt n)
theorem tlen_val {l : List Int} (h : W32 l) : tlen l = mWords (valL l) := by
  have hr : inR l := h
  have h1 := magN_tlen_lt hr
  rw [magN_val] at h1
  have h2 := mWords_le h1
  by_cases h0 : tlen l = 0
  · omega
  · have h3 := magN_ge hr h0
    rw [magN_val] at h3
    have h4 := mWords_lt (valL l)
    have h5 := (Nat.pow_lt_pow_iff_right (a := 2) (by decide)).1 (Nat.lt_of_le_of_lt h3 h4)
    omega
theorem take_tlen {l : List Int} (h : W32 l) : l.take (tlen l) = magL (valL l) := by
  refine valL_inj (h.take _) (magL_W32 _) ?_ ?_
  · rw [List.length_take, Nat.min_eq_left (tlen_le l), magL_len, tlen_val h]
  · rw [magL_val, ← magN_val, magN_trim, magN_val]
theorem sub_tlen {l : List Int} (h : W32 l) {n : Nat} (hn : valL l = n) : stdA.sub l 0 ((tlen l : Nat) : Int) = magL n := by
  subst hn
  show (l.take ((tlen l : Nat) : Int).toNat).drop (0 : Int).toNat = _
  rw [Int.toNat_natCast]
  exact take_tlen h
def isMag (l : List Int) : Bool := stdA.all32 l && (decide (tlen l = l.length) && decide (l.length ≤ 1000))
structure Mag (l : List Int) : Prop where
  w : W32 l
  t : tlen l = l.length
  n : l.length ≤ 1000
theorem isMag_iff {l : List Int} : isMag l = true ↔ Mag l := by
  unfold isMag
  rw [Bool.and_eq_true, Bool.and_eq_true, decide_eq_true_eq, decide_eq_true_eq]
  exact ⟨fun h => ⟨W32.all h.1, h.2.1, h.2.2⟩, fun h => ⟨h.w.all', h.t, h.n⟩⟩
theorem Mag.eq {l : List Int} (h : Mag l) : l = magL (valL l) := by
  have := take_tlen h.w
  rwa [h.t, List.take_length] at this
theorem Mag.len {l : List Int} (h : Mag l) : l.length = mWords (valL l) := by rw [← h.t, tlen_val h.w]
theorem Mag.of {n : Nat} (h : mWords n ≤ 1000) : Mag (magL n) := ⟨magL_W32 n, by rw [tlen_val (magL_W32 n), magL_val, magL_len], by rw [magL_len]; exact h⟩
theorem Mag.lt {n k : Nat} (h : n < 2 ^ k) (hk : k ≤ 32000) : Mag (magL n) := Mag.of (Nat.le_trans (mWords_le (k := (k + 31) / 32) (Nat.lt_of_lt_of_le h (Nat.pow_le_pow_right (by decide) (by omega)))) (by omega))
theorem Mag.inj {l m : List Int} (hl : Mag l) (hm : Mag m) (h : valL l = valL m) : l = m := by rw [hl.eq, hm.eq, h]
structure SM where
  ok : List Int → Bool
  of : Wd → List Int
  cmp : List Int → List Int → Int
  add : List Int → List Int → List Int
  sub : List Int → List Int → List Int
  mul : List Int → List Int → List Int
  bits : List Int → Int
  shl : List Int → Int → List Int
  dq : List Int → List Int → List Int
  dr : List Int → List Int → List Int
  gcd : List Int → List Int → List Int
  tq : List Int → List Int
  tr : List Int → Int
  text : List Int → ByteArray
  le : List Int → List Int → Bool
  nz : List Int → Bool
  sOK : List Int → Int → Bool
  toI : Wd → Int
  sumS : Bool → List Int → Bool → List Int → Bool
  sumM : Bool → List Int → Bool → List Int → List Int
def stdM : SM where
  ok := isMag
  of w := magL w.d.n
  cmp l m := sgn (valL l) (valL m)
  add l m := magL (valL l + valL m)
  sub l m := magL (valL l - valL m)
  mul l m := magL (valL l * valL m)
  bits l := ((lenOf (valL l) : Nat) : Int)
  shl l n := magL (valL l * 2 ^ n.toNat)
  dq l m := magL (valL l / valL m)
  dr l m := magL (valL l % valL m)
  gcd l m := magL (Nat.gcd (valL l) (valL m))
  tq l := magL (valL l / 10)
  tr l := ((valL l % 10 : Nat) : Int)
  text l := stdA.ofB (textL ⟨false, mk1024 (valL l)⟩)
  le l m := decide (valL l ≤ valL m)
  nz l := decide (valL l ≠ 0)
  sOK l n := decide (0 ≤ n) && decide (n ≤ 32000)
  toI w := if w.d.n < 2 ^ 64 then (if wbelow w then stdBin .sub .i64 (stdBin .sub .i64 0 (IntKind.i64.wrap (stdBin .sub .u64 (w.d.n : Int) 1))) 1 else IntKind.i64.wrap (w.d.n : Int)) else 0
  sumS x l y m := if x = y then x else if valL m ≤ valL l then x else y
  sumM x l y m := if x = y then magL (valL l + valL m) else if valL m ≤ valL l then magL (valL l - valL m) else magL (valL m - valL l)
end Go.Eng
set_option linter.all false
set_option exponentiation.threshold 40000
namespace Go.Eng
set_option maxRecDepth 100000
def sgd (b : Bool) (n : Nat) : Int := if b then -(n : Int) else n
theorem sgd_abs (b : Bool) (n : Nat) : (sgd b n).natAbs = n := by cases b <;> simp [sgd]
theorem tld_sgd (b : Bool) (n : Nat) (h : n < 2 ^ 1024) : tld b (mk1024 n) = ofZ (sgd b n) := by
  rw [tld_ofZ]
  have : (mk1024 n).n = n := Nat.mod_eq_of_lt h
  rw [this]; rfl
theorem wval_sgd (w : Wd) : wval w = sgd (wbelow w) w.d.n := wval_if w
theorem mWords_32 {n : Nat} : mWords n ≤ 32 ↔ n < 2 ^ 1024 := by
  constructor
  · intro h
    exact Nat.lt_of_lt_of_le (mWords_lt n) (Nat.pow_le_pow_right (by decide) (by omega))
  · intro h
    exact mWords_le (k := 32) h
end Go.Eng

