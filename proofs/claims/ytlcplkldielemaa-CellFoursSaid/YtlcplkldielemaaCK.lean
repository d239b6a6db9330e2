/- The keys of squares, in plain words. -/
import Derived.Test.YtlcplkldielemaaCC2
namespace Go.Eng
set_option maxRecDepth 100000
set_option linter.all false
set_option exponentiation.threshold 3000

theorem i64_and1 (a : Int) (h0 : 0 ≤ a) (h1 : a < 9223372036854775808) : stdBin .and .i64 a 1 = a % 2 := by
  have e1 := ofInt_toNat 64 a h0 (by omega)
  show IntKind.i64.wrap ((BitVec.ofInt 64 a &&& BitVec.ofInt 64 1).toNat : Int) = _
  rw [BitVec.toNat_and, e1, show (BitVec.ofInt 64 1).toNat = 2 ^ 1 - 1 from rfl, Nat.and_two_pow_sub_one_eq_mod, IntKind.wrap_i64]
  omega

theorem i64_or (a b : Int) (h0 : 0 ≤ a) (h1 : a < 4611686018427387904) (h2 : 0 ≤ b) (h3 : b < 4611686018427387904) : stdBin .or .i64 a b = ((a.toNat ||| b.toNat : Nat) : Int) := by
  have e1 := ofInt_toNat 64 a h0 (by omega)
  have e2 := ofInt_toNat 64 b h2 (by omega)
  have h4 : a.toNat ||| b.toNat < 2 ^ 62 := Nat.or_lt_two_pow (by omega) (by omega)
  show IntKind.i64.wrap ((BitVec.ofInt 64 a ||| BitVec.ofInt 64 b).toNat : Int) = _
  rw [BitVec.toNat_or, e1, e2, IntKind.wrap_i64]
  omega

/-- a bit set above all bits -/
theorem or_step (o x : Int) (i j : Nat) (hj : j ≤ 20) (hi : i ≤ 20) (h0 : 0 ≤ o) (h1 : o < 2 ^ j) (x0 : 0 ≤ x) (x1 : x < 64) :
    stdBin .or .i64 o (stdBin .shl .i64 (stdBin .and .i64 (stdBin .shr .i64 x (i : Int)) 1) (j : Int)) = o + 2 ^ j * (x / 2 ^ i % 2) := by
  have e1 : stdBin .shr .i64 x (i : Int) = x / 2 ^ i := by
    show x.fdiv (2 ^ min ((i : Int)).toNat 64) = _
    rw [Int.toNat_natCast, Nat.min_eq_left (by omega), Int.fdiv_eq_ediv_of_nonneg _ (Int.pow_nonneg (by decide))]
  have p1 : (0 : Int) < 2 ^ i := Int.pow_pos (by decide)
  have q0 : 0 ≤ x / 2 ^ i := Int.ediv_nonneg x0 (Int.le_of_lt p1)
  have q1 : x / 2 ^ i ≤ x := Int.ediv_le_self _ x0
  rw [e1, i64_and1 _ q0 (by omega)]
  have hb : x / 2 ^ i % 2 = 0 ∨ x / 2 ^ i % 2 = 1 := by omega
  have n1 : 2 ^ j ≤ 2 ^ 20 := Nat.pow_le_pow_right (by decide) hj
  have n2 : ((2 ^ j : Nat) : Int) = 2 ^ j := by simp
  have e2 : ∀ b : Int, stdBin .shl .i64 b (j : Int) = IntKind.i64.wrap (b * 2 ^ j) := fun b => by
    show IntKind.i64.wrap (b * 2 ^ min ((j : Int)).toNat 64) = _
    rw [Int.toNat_natCast, Nat.min_eq_left (by omega)]
  rw [e2, ← n2]
  rw [← n2] at h1
  rcases hb with hb | hb <;> rw [hb, IntKind.wrap_i64]
  · rw [i64_or _ _ h0 (by omega) (by omega) (by omega)]
    simp
    omega
  · have e3 : (1 * ((2 ^ j : Nat) : Int) + 9223372036854775808) % 18446744073709551616 - 9223372036854775808 = ((2 ^ j : Nat) : Int) := by omega
    rw [e3, i64_or _ _ h0 (by omega) (by omega) (by omega), Int.toNat_natCast, Nat.or_comm]
    have := Nat.two_pow_add_eq_or_of_lt (i := j) (b := o.toNat) (by omega) 1
    rw [Nat.mul_one] at this
    rw [← this]
    omega

/-- a number's bits, each at twice its place -/
def spr : Nat → Int → Int
  | 0, _ => 0
  | n + 1, x => x % 2 + 4 * spr n (x / 2)

theorem spr_bd : ∀ (n : Nat) (x : Int), 0 ≤ spr n x ∧ 3 * spr n x < 4 ^ n
  | 0, x => by simp [spr]
  | n + 1, x => by
    have := spr_bd n (x / 2)
    simp only [spr]
    rw [Int.pow_succ]
    omega

set_option maxHeartbeats 2000000 in
theorem key_spr {x y : Int} (x0 : 0 ≤ x) (x1 : x < 64) (y0 : 0 ≤ y) (y1 : y < 64) : keyE x y = spr 6 x + 2 * spr 6 y := by
  have st : ∀ (o z : Int) (i j : Nat) (i' j' : Int), i' = i → j' = j → 0 ≤ z → z < 64 → j ≤ 20 → i ≤ 20 → 0 ≤ o → o < 2 ^ j → stdBin .or .i64 o (stdBin .shl .i64 (stdBin .and .i64 (stdBin .shr .i64 z i') 1) j') = o + 2 ^ j * (z / 2 ^ i % 2) :=
    fun o z i j i' j' hi hj h1 h2 h3 h4 h5 h6 => by rw [hi, hj]; exact or_step o z i j h3 h4 h5 h6 h1 h2
  unfold keyE
  simp only [List.foldl_cons, List.foldl_nil]
  rw [st 0 x 0 0 0 (2 * 0) rfl rfl x0 x1 (by omega) (by omega) (by omega) (by omega)]
  rw [st _ y 0 1 0 (2 * 0 + 1) rfl rfl y0 y1 (by omega) (by omega) (by omega) (by omega)]
  rw [st _ x 1 2 1 (2 * 1) rfl rfl x0 x1 (by omega) (by omega) (by omega) (by omega)]
  rw [st _ y 1 3 1 (2 * 1 + 1) rfl rfl y0 y1 (by omega) (by omega) (by omega) (by omega)]
  rw [st _ x 2 4 2 (2 * 2) rfl rfl x0 x1 (by omega) (by omega) (by omega) (by omega)]
  rw [st _ y 2 5 2 (2 * 2 + 1) rfl rfl y0 y1 (by omega) (by omega) (by omega) (by omega)]
  rw [st _ x 3 6 3 (2 * 3) rfl rfl x0 x1 (by omega) (by omega) (by omega) (by omega)]
  rw [st _ y 3 7 3 (2 * 3 + 1) rfl rfl y0 y1 (by omega) (by omega) (by omega) (by omega)]
  rw [st _ x 4 8 4 (2 * 4) rfl rfl x0 x1 (by omega) (by omega) (by omega) (by omega)]
  rw [st _ y 4 9 4 (2 * 4 + 1) rfl rfl y0 y1 (by omega) (by omega) (by omega) (by omega)]
  rw [st _ x 5 10 5 (2 * 5) rfl rfl x0 x1 (by omega) (by omega) (by omega) (by omega)]
  rw [st _ y 5 11 5 (2 * 5 + 1) rfl rfl y0 y1 (by omega) (by omega) (by omega) (by omega)]
  rw [st _ x 6 12 6 (2 * 6) rfl rfl x0 x1 (by omega) (by omega) (by omega) (by omega)]
  rw [st _ y 6 13 6 (2 * 6 + 1) rfl rfl y0 y1 (by omega) (by omega) (by omega) (by omega)]
  rw [st _ x 7 14 7 (2 * 7) rfl rfl x0 x1 (by omega) (by omega) (by omega) (by omega)]
  rw [st _ y 7 15 7 (2 * 7 + 1) rfl rfl y0 y1 (by omega) (by omega) (by omega) (by omega)]
  simp only [spr]
  omega

/-- each second bit of a number, n of them -/
def dsp : Nat → Int → Int
  | 0, _ => 0
  | n + 1, k => k % 2 + 2 * dsp n (k / 4)

theorem dsp_spr : ∀ (n : Nat) (x y : Int), 0 ≤ x → x < 2 ^ n → dsp n (spr n x + 2 * spr n y) = x
  | 0, x, y, h0, h1 => by simp [dsp] at *; omega
  | n + 1, x, y, h0, h1 => by
    rw [Int.pow_succ] at h1
    have ih := dsp_spr n (x / 2) (y / 2) (by omega) (by omega)
    simp only [dsp, spr]
    rw [show (x % 2 + 4 * spr n (x / 2) + 2 * (y % 2 + 4 * spr n (y / 2))) / 4 = spr n (x / 2) + 2 * spr n (y / 2) from by omega, ih]
    omega

theorem dsp_spr2 : ∀ (n : Nat) (x y : Int), 0 ≤ y → y < 2 ^ n → dsp n ((spr n x + 2 * spr n y) / 2) = y
  | 0, x, y, h0, h1 => by simp [dsp] at *; omega
  | n + 1, x, y, h0, h1 => by
    rw [Int.pow_succ] at h1
    have ih := dsp_spr2 n (x / 2) (y / 2) (by omega) (by omega)
    simp only [dsp, spr]
    rw [show (x % 2 + 4 * spr n (x / 2) + 2 * (y % 2 + 4 * spr n (y / 2))) / 2 / 4 = (spr n (x / 2) + 2 * spr n (y / 2)) / 2 from by omega, ih]
    omega

/-- a bit of a number, moved up -/
theorem bit_shl (k : Int) (i j : Nat) (i' : Int) (hi' : i' = i) (hj : j ≤ 20) (hi : i ≤ 20) (h0 : 0 ≤ k) (h1 : k < 1048576) (n : Int) (n0 : 0 ≤ n) (n1 : n < 1048576) (j' : Int) (hj' : j' = j) :
    stdBin .add .i64 n (stdBin .shl .i64 (stdBin .and .i64 (stdBin .shr .i64 k i') 1) j') = n + 2 ^ j * (k / 2 ^ i % 2) := by
  subst hi' hj'
  have e1 : stdBin .shr .i64 k (i : Int) = k / 2 ^ i := by
    show k.fdiv (2 ^ min ((i : Int)).toNat 64) = _
    rw [Int.toNat_natCast, Nat.min_eq_left (by omega), Int.fdiv_eq_ediv_of_nonneg _ (Int.pow_nonneg (by decide))]
  have p1 : (0 : Int) < 2 ^ i := Int.pow_pos (by decide)
  have q0 : 0 ≤ k / 2 ^ i := Int.ediv_nonneg h0 (Int.le_of_lt p1)
  have q1 : k / 2 ^ i ≤ k := Int.ediv_le_self _ h0
  rw [e1, i64_and1 _ q0 (by omega)]
  have hb : k / 2 ^ i % 2 = 0 ∨ k / 2 ^ i % 2 = 1 := by omega
  have m1 : 2 ^ j ≤ 2 ^ 20 := Nat.pow_le_pow_right (by decide) hj
  have m2 : ((2 ^ j : Nat) : Int) = 2 ^ j := by simp
  have e2 : ∀ b : Int, stdBin .shl .i64 b (j : Int) = IntKind.i64.wrap (b * 2 ^ j) := fun b => by
    show IntKind.i64.wrap (b * 2 ^ min ((j : Int)).toNat 64) = _
    rw [Int.toNat_natCast, Nat.min_eq_left (by omega)]
  rw [e2, ← m2]
  generalize (2 ^ j : Nat) = P at *
  rcases hb with hb | hb <;> rw [hb]
  · simp only [stdBin, IntKind.wrap_i64]; omega
  · simp only [stdBin, IntKind.wrap_i64]; omega

end Go.Eng
