
import Derived.Test.YtekohdfjkmdlpaaGreatSpecX
import Derived.Test.YtekohdfjkmdlpaaGreatSpecNA
set_option linter.all false
set_option exponentiation.threshold 3000
namespace Go.Eng
set_option maxRecDepth 100000
theorem magN_val : ∀ l : List Int, magN l = valL l
  | [] => rfl
  | x :: r => by simp only [magN, valL, magN_val r]
def mWords (n : Nat) : Nat := if n = 0 then 0 else n.log2 / 32 + 1
theorem mWords_lt (n : Nat) : n < 2 ^ (32 * mWords n) := by
  unfold mWords
  split
  · rename_i h; subst h; exact Nat.two_pow_pos _
  · rename_i h
    have h1 := Nat.lt_log2_self (n := n)
    exact Nat.lt_of_lt_of_le h1 (Nat.pow_le_pow_right (by decide) (by omega))
theorem mWords_le {n k : Nat} (h : n < 2 ^ (32 * k)) : mWords n ≤ k := by
  unfold mWords
  split
  · omega
  · rename_i h0
    have h1 := Nat.log2_self_le h0
    have h2 : 2 ^ n.log2 < 2 ^ (32 * k) := Nat.lt_of_le_of_lt h1 h
    have h3 := (Nat.pow_lt_pow_iff_right (by decide)).1 h2
    omega
theorem mWords_zero {n : Nat} : mWords n = 0 ↔ n = 0 := by
  unfold mWords
  constructor
  · intro h; split at h
    · assumption
    · omega
  · intro h; rw [if_pos h]
def magL (n : Nat) : List Int := digL n (mWords n)
theorem magL_len (n : Nat) : (magL n).length = mWords n := digL_length _ _
theorem magL_W32 (n : Nat) : W32 (magL n) := digL_W32 _ _
theorem magL_val (n : Nat) : valL (magL n) = n := valL_digL _ _ (mWords_lt n)
theorem tlen_val {l : List Int} (h : W32 l) : tlen l = mWords (valL l) := by
  have hr : inR l := h
  have h1 := magN_tlen_lt hr
  rw [magN_val] at h1
  have h2 := mWords_le h1
  by_cases h0 : tlen l = 0
  · omega
  · have h3 := magN_ge hr h0
    rw [magN_val] at h3
    have h4 := mWords_lt (valL l)
    have h5 := (Nat.pow_lt_pow_iff_right (a := 2) (by decide)).1 (Nat.lt_of_le_of_lt h3 h4)
    omega
theorem take_tlen {l : List Int} (h : W32 l) : l.take (tlen l) = magL (valL l) := by
  refine valL_inj (h.take _) (magL_W32 _) ?_ ?_
  · rw [List.length_take, Nat.min_eq_left (tlen_le l), magL_len, tlen_val h]
  · rw [magL_val, ← magN_val, magN_trim, magN_val]
theorem sub_tlen {l : List Int} (h : W32 l) {n : Nat} (hn : valL l = n) : stdA.sub l 0 ((tlen l : Nat) : Int) = magL n := by
  subst hn
  show (l.take ((tlen l : Nat) : Int).toNat).drop (0 : Int).toNat = _
  rw [Int.toNat_natCast]
  exact take_tlen h
def isMag (l : List Int) : Bool := stdA.all32 l && (decide (tlen l = l.length) && decide (l.length ≤ 1000))
structure Mag (l : List Int) : Prop where
  w : W32 l
  t : tlen l = l.length
  n : l.length ≤ 1000
theorem isMag_iff {l : List Int} : isMag l = true ↔ Mag l := by
  unfold isMag
  rw [Bool.and_eq_true, Bool.and_eq_true, decide_eq_true_eq, decide_eq_true_eq]
  exact ⟨fun h => ⟨W32.all h.1, h.2.1, h.2.2⟩, fun h => ⟨h.w.all', h.t, h.n⟩⟩
theorem Mag.eq {l : List Int} (h : Mag l) : l = magL (valL l) := by
  have := take_tlen h.w
  rwa [h.t, List.take_length] at this
theorem Mag.len {l : List Int} (h : Mag l) : l.length = mWords (valL l) := by rw [← h.t, tlen_val h.w]
theorem Mag.of {n : Nat} (h : mWords n ≤ 1000) : Mag (magL n) := ⟨magL_W32 n, by rw [tlen_val (magL_W32 n), magL_val, magL_len], by rw [magL_len]; exact h⟩
theorem Mag.lt {n k : Nat} (h : n < 2 ^ k) (hk : k ≤ 32000) : Mag (magL n) := Mag.of (Nat.le_trans (mWords_le (k := (k + 31) / 32) (Nat.lt_of_lt_of_le h (Nat.pow_le_pow_right (by decide) (by omega)))) (by omega))
theorem Mag.inj {l m : List Int} (hl : Mag l) (hm : Mag m) (h : valL l = valL m) : l = m := by rw [hl.eq, hm.eq, h]
structure SM where
  ok : List Int → Bool
  of : Wd → List Int
  cmp : List Int → List Int → Int
  add : List Int → List Int → List Int
  sub : List Int → List Int → List Int
  mul : List Int → List Int → List Int
  bits : List Int → Int
  shl : List Int → Int → List Int
  dq : List Int → List Int → List Int
  dr : List Int → List Int → List Int
  gcd : List Int → List Int → List Int
  tq : List Int → List Int
  tr : List Int → Int
  text : List Int → ByteArray
  le : List Int → List Int → Bool
  nz : List Int → Bool
  sOK : List Int → Int → Bool
  toI : Wd → Int
  sumS : Bool → List Int → Bool → List Int → Bool
  sumM : Bool → List Int → Bool → List Int → List Int
def stdM : SM where
  ok := isMag
  of w := magL w.d.n
  cmp l m := sgn (valL l) (valL m)
  add l m := magL (valL l + valL m)
  sub l m := magL (valL l - valL m)
  mul l m := magL (valL l * valL m)
  bits l := ((lenOf (valL l) : Nat) : Int)
  shl l n := magL (valL l * 2 ^ n.toNat)
  dq l m := magL (valL l / valL m)
  dr l m := magL (valL l % valL m)
  gcd l m := magL (Nat.gcd (valL l) (valL m))
  tq l := magL (valL l / 10)
  tr l := ((valL l % 10 : Nat) : Int)
  text l := stdA.ofB (textL ⟨false, mk1024 (valL l)⟩)
  le l m := decide (valL l ≤ valL m)
  nz l := decide (valL l ≠ 0)
  sOK l n := decide (0 ≤ n) && decide (n ≤ 32000)
  toI w := if w.d.n < 2 ^ 64 then (if wbelow w then stdBin .sub .i64 (stdBin .sub .i64 0 (IntKind.i64.wrap (stdBin .sub .u64 (w.d.n : Int) 1))) 1 else IntKind.i64.wrap (w.d.n : Int)) else 0
  sumS x l y m := if x = y then x else if valL m ≤ valL l then x else y
  sumM x l y m := if x = y then magL (valL l + valL m) else if valL m ≤ valL l then magL (valL l - valL m) else magL (valL m - valL l)
end Go.Eng
set_option linter.all false
set_option exponentiation.threshold 40000
namespace Go.Eng
set_option maxRecDepth 100000
def sgd (b : Bool) (n : Nat) : Int := if b then -(n : Int) else n
theorem sgd_abs (b : Bool) (n : Nat) : (sgd b n).natAbs = n := by cases b <;> simp [sgd]
theorem tld_sgd (b : Bool) (n : Nat) (h : n < 2 ^ 1024) : tld b (mk1024 n) = ofZ (sgd b n) := by
  rw [tld_ofZ]
  have : (mk1024 n).n = n := Nat.mod_eq_of_lt h
  rw [this]; rfl
theorem wval_sgd (w : Wd) : wval w = sgd (wbelow w) w.d.n := wval_if w
theorem mWords_32 {n : Nat} : mWords n ≤ 32 ↔ n < 2 ^ 1024 := by
  constructor
  · intro h
    exact Nat.lt_of_lt_of_le (mWords_lt n) (Nat.pow_le_pow_right (by decide) (by omega))
  · intro h
    exact mWords_le (k := 32) h
theorem add_abs {x y : Bool} {a b : Nat} : sgd x a + sgd y b = sgd (if x = y then x else if b ≤ a then x else y) (if x = y then a + b else if b ≤ a then a - b else b - a) := by
  cases x <;> cases y <;> simp only [sgd, if_true, if_false, Bool.false_eq_true, reduceCtorEq, Bool.true_eq_false] <;> (try split) <;> (try simp only [if_true, if_false, Bool.false_eq_true]) <;> omega
end Go.Eng

