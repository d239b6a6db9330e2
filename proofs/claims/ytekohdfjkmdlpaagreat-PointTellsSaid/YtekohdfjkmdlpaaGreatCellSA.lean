
import Derived.Test.YtekohdfjkmdlpaaGreatEngMW
set_option linter.all false
set_option exponentiation.threshold 3000
namespace Go.Eng
def dSize (d : Dg) : Nat := if d.n = 0 then 0 else d.n.log2 / 32 + 1
structure SW where
  size : Dg → Int
  dcmp : Dg → Dg → Int
  told : Bool → Dg → Wd
  isW : Wd → Bool
  below : Wd → Bool
  from64 : Int → Wd
  bits : Wd → Int
  neg : Wd → Wd
  cmp : Wd → Wd → Int
  len32 : Int → Int
  one : Wd → Bool
  small : Wd → Bool
  gcd : Wd → Wd → Wd
def lenOf (n : Nat) : Nat := if n = 0 then 0 else n.log2 + 1
def mk1024 (n : Nat) : Dg := ⟨n % 2 ^ 1024, modlt _ 1024⟩
def tld (b : Bool) (d : Dg) : Wd := ⟨b && decide (d.n ≠ 0), d⟩
def wbelow (w : Wd) : Bool := w.neg && decide (w.d.n ≠ 0)
def sgn (a b : Int) : Int := if a < b then -1 else if b < a then 1 else 0
def wval (w : Wd) : Int := if w.neg then -(w.d.n : Int) else w.d.n
theorem gcd_lt {a b m : Nat} (ha : a < m) (hb : b < m) : Nat.gcd a b < m := by
  by_cases h : a = 0
  · subst h; simpa using hb
  · exact Nat.lt_of_le_of_lt (Nat.gcd_le_left b (Nat.pos_of_ne_zero h)) ha
def stdW : SW where
  size d := dSize d
  dcmp a b := sgn a.n b.n
  told := tld
  isW w := !w.neg || decide (w.d.n ≠ 0)
  below := wbelow
  from64 n := tld (decide (n < 0)) (mk1024 n.natAbs)
  bits w := ((lenOf w.d.n : Nat) : Int)
  neg w := tld (!wbelow w) w.d
  cmp a b := sgn (wval a) (wval b)
  len32 n := ((lenOf n.toNat : Nat) : Int)
  one w := decide (wval w = 1)
  small w := decide (w.d.n < 2 ^ 64)
  gcd a b := ⟨false, ⟨Nat.gcd a.d.n b.d.n, gcd_lt a.d.lt b.d.lt⟩⟩
end Go.Eng
namespace Go.Eng
set_option maxRecDepth 100000
theorem pow1024 : (2 : Nat) ^ 1024 = 2 ^ (32 * (32 : Int).toNat) := by rw [show 32 * (32 : Int).toNat = 1024 from rfl]
theorem dSize_of {d : Dg} {n : Nat} (h1 : d.n < 2 ^ (32 * n)) (h2 : n = 0 ∨ 2 ^ (32 * (n - 1)) ≤ d.n) : dSize d = n := by
  unfold dSize
  rcases h2 with rfl | h2
  · simp at h1; simp [h1]
  · have := Nat.two_pow_pos (32 * (n - 1))
    by_cases hn : n = 0
    · subst hn; simp at h1; omega
    · rw [if_neg (by omega)]
      have h3 : d.n.log2 < 32 * n := (Nat.log2_lt (by omega)).2 h1
      have h4 : 32 * (n - 1) ≤ d.n.log2 := (Nat.le_log2 (by omega)).2 h2
      omega
theorem Dg.ext' {a b : Dg} (h : a.n = b.n) : a = b := by cases a; cases b; cases h; rfl
theorem lt_pow {n a b : Nat} (h : n < 2 ^ a) (hab : a ≤ b) : n < 2 ^ b := Nat.lt_of_lt_of_le h (Nat.pow_le_pow_right (by decide) hab)
theorem mk1024_n (n : Nat) (h : n < 2 ^ 64) : (mk1024 n).n = n := by
  have h' := lt_pow h (show 64 ≤ 1024 from by decide)
  exact Nat.mod_eq_of_lt h'
theorem from_words (t : Int) (h0 : 0 ≤ t) (h1 : t < 18446744073709551616) :
    stdA.setD (stdA.setD Dg.zero 0 (IntKind.u32.wrap (stdBin .and .u64 t 4294967295))) 1 (IntKind.u32.wrap (stdBin .shr .u64 t 32)) = mk1024 t.toNat := by
  apply Dg.ext'
  rw [mk1024_n _ (by omega), u64_low t h0 h1, u64_high t h0]
  rw [IntKind.wrap_u32, IntKind.wrap_u32]
  show ((Dg.zero.set 0 _).set 1 _).n = _
  rw [two_words _ _ (by omega) (by omega)]
  omega
theorem cmp_val (x y : Wd) : sgn (wval x) (wval y) =
    if wbelow x then (if wbelow y then sgn y.d.n x.d.n else -1) else (if wbelow y then 1 else sgn x.d.n y.d.n) := by
  obtain ⟨nx, dx⟩ := x
  obtain ⟨ny, dy⟩ := y
  simp only [wval, wbelow, sgn]
  cases nx <;> cases ny <;> simp <;> (repeat' split) <;> omega
theorem lenOf_div (n k : Nat) (h : 2 ^ k ≤ n) : lenOf n = k + lenOf (n / 2 ^ k) := by
  have hk := Nat.two_pow_pos k
  have hd : n / 2 ^ k ≠ 0 := by
    have := Nat.div_le_div_right (c := 2 ^ k) h
    rw [Nat.div_self hk] at this
    omega
  unfold lenOf
  rw [if_neg (by omega), if_neg hd]
  have h1 := Nat.log2_self_le hd
  have h2 := @Nat.lt_log2_self (n / 2 ^ k)
  have : n.log2 = k + (n / 2 ^ k).log2 := by
    rw [Nat.log2_eq_iff (by omega)]
    constructor
    · rw [Nat.pow_add, Nat.mul_comm]; exact Nat.le_trans (Nat.mul_le_mul_right _ h1) (Nat.div_mul_le_self _ _)
    · rw [show k + (n / 2 ^ k).log2 + 1 = (n / 2 ^ k).log2 + 1 + k from by omega, Nat.pow_add]
      exact (Nat.div_lt_iff_lt_mul hk).1 h2
  omega
def len8 : ByteArray := ⟨⟨[0, 1, 2, 2, 3, 3, 3, 3, 4, 4, 4, 4, 4, 4, 4, 4, 5, 5, 5, 5, 5, 5, 5, 5, 5, 5, 5, 5, 5, 5, 5, 5, 6, 6, 6, 6, 6, 6, 6, 6, 6, 6, 6, 6, 6, 6, 6, 6, 6, 6, 6, 6, 6, 6, 6, 6, 6, 6, 6, 6, 6, 6, 6, 6, 7, 7, 7, 7, 7, 7, 7, 7, 7, 7, 7, 7, 7, 7, 7, 7, 7, 7, 7, 7, 7, 7, 7, 7, 7, 7, 7, 7, 7, 7, 7, 7, 7, 7, 7, 7, 7, 7, 7, 7, 7, 7, 7, 7, 7, 7, 7, 7, 7, 7, 7, 7, 7, 7, 7, 7, 7, 7, 7, 7, 7, 7, 7, 7, 8, 8, 8, 8, 8, 8, 8, 8, 8, 8, 8, 8, 8, 8, 8, 8, 8, 8, 8, 8, 8, 8, 8, 8, 8, 8, 8, 8, 8, 8, 8, 8, 8, 8, 8, 8, 8, 8, 8, 8, 8, 8, 8, 8, 8, 8, 8, 8, 8, 8, 8, 8, 8, 8, 8, 8, 8, 8, 8, 8, 8, 8, 8, 8, 8, 8, 8, 8, 8, 8, 8, 8, 8, 8, 8, 8, 8, 8, 8, 8, 8, 8, 8, 8, 8, 8, 8, 8, 8, 8, 8, 8, 8, 8, 8, 8, 8, 8, 8, 8, 8, 8, 8, 8, 8, 8, 8, 8, 8, 8, 8, 8, 8, 8, 8, 8, 8, 8, 8, 8, 8, 8, 8, 8, 8, 8, 8, 8]⟩⟩
theorem len8_size : stdA.slen len8 = 256 := rfl
theorem len8_all : (List.range 256).all (fun y => match len8[y]? with
    | some b => b.toNat == lenOf y
    | none => false) = true := by decide +kernel
theorem len8_at (y : Int) (h0 : 0 ≤ y) (h1 : y < 256) : stdA.sb len8 y = lenOf y.toNat := by
  have := List.all_eq_true.1 len8_all y.toNat (by simp; omega)
  simp only [stdA]
  split at this
  · rename_i b hb; rw [hb]; simp only [beq_iff_eq] at this; simp only [this]
  · cases this
theorem dSize_spec (d : Dg) (h : d.n ≠ 0) : 1 ≤ dSize d ∧ dSize d ≤ 32 ∧ d.n < 2 ^ (32 * dSize d) ∧ 2 ^ (32 * (dSize d - 1)) ≤ d.n := by
  have h1 : d.n.log2 < 1024 := (Nat.log2_lt h).2 d.lt
  have h2 := Nat.log2_self_le h
  have h3 := @Nat.lt_log2_self d.n
  unfold dSize
  rw [if_neg h]
  refine ⟨by omega, by omega, lt_pow h3 (by omega), Nat.le_trans (Nat.pow_le_pow_right (by decide) (by omega)) h2⟩
theorem bits_spec (d : Dg) (h : d.n ≠ 0) : lenOf d.n = 32 * (dSize d - 1) + lenOf (d.dig (dSize d - 1)) := by
  obtain ⟨h1, h2, h3, h4⟩ := dSize_spec d h
  rw [lenOf_div d.n _ h4]
  congr 2
  unfold Dg.dig
  rw [Nat.mod_eq_of_lt]
  rw [Nat.div_lt_iff_lt_mul (Nat.two_pow_pos _), ← Nat.pow_add]
  rwa [show 32 + 32 * (dSize d - 1) = 32 * dSize d from by omega]
theorem lenOf_le (n k : Nat) (h : n < 2 ^ k) : lenOf n ≤ k := by
  unfold lenOf
  split
  · omega
  · rename_i hn
    have := (Nat.log2_lt hn).2 h
    omega
theorem to_u64 (d : Dg) (h : d.n < 2 ^ 64) : stdBin .or .u64 (stdBin .shl .u64 (IntKind.u64.wrap ((d.dig 1 : Nat) : Int)) 32) (IntKind.u64.wrap ((d.dig 0 : Nat) : Int)) = ((d.n : Nat) : Int) := by
  have e0 : d.dig 0 = d.n % 2 ^ 32 := by simp [Dg.dig]
  have e1 : d.dig 1 = d.n / 2 ^ 32 := by
    show d.n / 2 ^ (32 * 1) % 2 ^ 32 = _
    rw [show 32 * 1 = 32 from rfl]; omega
  have hs : stdBin .shl .u64 (IntKind.u64.wrap ((d.dig 1 : Nat) : Int)) 32 = ((2 ^ 32 * (d.n / 2 ^ 32) : Nat) : Int) := by
    show IntKind.u64.wrap (IntKind.u64.wrap ((d.dig 1 : Nat) : Int) * 2 ^ min (32 : Int).toNat 64) = _
    rw [show min (32 : Int).toNat 64 = 32 from rfl, w_u64, w_u64, e1]
    omega
  have hl : IntKind.u64.wrap ((d.dig 0 : Nat) : Int) = ((d.n % 2 ^ 32 : Nat) : Int) := by rw [w_u64, e0]; omega
  rw [hs, hl, u64_or _ _ (by omega) (by omega) (by omega) (by omega), Int.toNat_natCast, Int.toNat_natCast]
  rw [← Nat.two_pow_add_eq_or_of_lt (by omega)]
  omega
def sameFrom (d e : Dg) (n : Nat) : Prop := d.n / 2 ^ (32 * n) = e.n / 2 ^ (32 * n)
theorem sameFrom_top (d e : Dg) : sameFrom d e (31 + 1 : Int).toNat := by
  unfold sameFrom
  have h1 := d.lt
  have h2 := e.lt
  rw [pow1024] at h1 h2
  rw [show (31 + 1 : Int).toNat = (32 : Int).toNat from rfl, Nat.div_eq_of_lt h1, Nat.div_eq_of_lt h2]
theorem dig_div (d : Dg) (n : Nat) : d.n / 2 ^ (32 * n) = 2 ^ 32 * (d.n / 2 ^ (32 * (n + 1))) + d.dig n := by
  have : d.n / 2 ^ (32 * (n + 1)) = d.n / 2 ^ (32 * n) / 2 ^ 32 := by
    rw [Nat.div_div_eq_div_mul, ← Nat.pow_add]
    rw [show 32 * (n + 1) = 32 * n + 32 from by omega]
  rw [this]
  unfold Dg.dig
  omega
theorem sameFrom_eq {d e : Dg} {n : Nat} (h : sameFrom d e (n + 1)) (hd : d.dig n = e.dig n) : sameFrom d e n := by
  unfold sameFrom at *
  rw [dig_div d n, dig_div e n, h, hd]
theorem sameFrom_lt {d e : Dg} {n : Nat} (h : sameFrom d e (n + 1)) (hd : d.dig n < e.dig n) : d.n < e.n := by
  unfold sameFrom at h
  have h1 := dig_div d n
  have h2 := dig_div e n
  rw [h] at h1
  have : d.n / 2 ^ (32 * n) < e.n / 2 ^ (32 * n) := by omega
  exact Nat.lt_of_not_le fun hle => by have := Nat.div_le_div_right (c := 2 ^ (32 * n)) hle; omega
theorem sameFrom_zero {d e : Dg} (h : sameFrom d e 0) : d.n = e.n := by simpa [sameFrom] using h
end Go.Eng

