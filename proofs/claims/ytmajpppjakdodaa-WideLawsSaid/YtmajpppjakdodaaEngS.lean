/- The engine, part S: numbers. -/
import Derived.Test.YtmajpppjakdodaaEngR
import Derived.IntWalk
set_option linter.all false
set_option exponentiation.threshold 3000
namespace Go.Eng

theorem dig_lt (d : Dg) (i : Nat) : d.dig i < 2 ^ 32 := modlt _ _

theorem dig_zero_iff (d : Dg) (i : Nat) (h : d.n < 2 ^ (32 * (i + 1))) : d.dig i = 0 ↔ d.n < 2 ^ (32 * i) := by
  have h1 : d.n / 2 ^ (32 * i) < 2 ^ 32 := by
    rw [Nat.div_lt_iff_lt_mul (Nat.two_pow_pos _), ← Nat.pow_add]
    rwa [show 32 + 32 * i = 32 * (i + 1) from by omega]
  unfold Dg.dig
  rw [Nat.mod_eq_of_lt h1, Nat.div_eq_zero_iff]
  have := Nat.two_pow_pos (32 * i)
  omega

/-- a cast under a name: 'toZn' takes each form of it in, 'zn' gives the plain one back -/
def zn (n : Nat) : Int := n
theorem toZn (n : Nat) : (NatCast.natCast n : Int) = zn n := rfl

theorem ofNat_cast (n : Nat) : Int.ofNat n = (n : Int) := rfl

theorem w_u64 (n : Int) : IntKind.u64.wrap n = n % 18446744073709551616 := by simp [IntKind.wrap, IntKind.bits, IntKind.signed]

theorem ofInt_toNat (w : Nat) (a : Int) (h0 : 0 ≤ a) (h1 : a < 2 ^ w) : (BitVec.ofInt w a).toNat = a.toNat := by
  rw [BitVec.toNat_ofInt]
  rw [Int.emod_eq_of_lt h0 (by exact_mod_cast h1)]

theorem u64_and (a b : Int) (h0 : 0 ≤ a) (h1 : a < 18446744073709551616) (h2 : 0 ≤ b) (h3 : b < 18446744073709551616) : stdBin .and .u64 a b = ((a.toNat &&& b.toNat : Nat) : Int) := by
  have e1 := ofInt_toNat 64 a h0 (by omega)
  have e2 := ofInt_toNat 64 b h2 (by omega)
  have h4 : a.toNat &&& b.toNat ≤ a.toNat := Nat.and_le_left
  show IntKind.u64.wrap ((BitVec.ofInt 64 a &&& BitVec.ofInt 64 b).toNat : Int) = _
  rw [BitVec.toNat_and, e1, e2, w_u64]
  omega

theorem u64_or (a b : Int) (h0 : 0 ≤ a) (h1 : a < 18446744073709551616) (h2 : 0 ≤ b) (h3 : b < 18446744073709551616) : stdBin .or .u64 a b = ((a.toNat ||| b.toNat : Nat) : Int) := by
  have e1 := ofInt_toNat 64 a h0 (by omega)
  have e2 := ofInt_toNat 64 b h2 (by omega)
  have h4 : a.toNat ||| b.toNat < 2 ^ 64 := Nat.or_lt_two_pow (by omega) (by omega)
  show IntKind.u64.wrap ((BitVec.ofInt 64 a ||| BitVec.ofInt 64 b).toNat : Int) = _
  rw [BitVec.toNat_or, e1, e2, w_u64]
  omega

theorem u64_low (a : Int) (h0 : 0 ≤ a) (h1 : a < 18446744073709551616) : stdBin .and .u64 a 4294967295 = a % 4294967296 := by
  rw [u64_and a _ h0 h1 (by omega) (by omega)]
  have : a.toNat &&& (4294967295 : Int).toNat = a.toNat % 2 ^ 32 := Nat.and_two_pow_sub_one_eq_mod _ 32
  rw [this]
  omega

theorem u64_high (a : Int) (h0 : 0 ≤ a) : stdBin .shr .u64 a 32 = a / 4294967296 := by
  show a.fdiv (2 ^ min (32 : Int).toNat 64) = _
  rw [Int.fdiv_eq_ediv_of_nonneg _ (by decide)]
  rfl

theorem two_words (lo hi : Nat) (h1 : lo < 2 ^ 32) (h2 : hi < 2 ^ 32) : ((Dg.zero.set 0 lo).set 1 hi).n = 2 ^ 32 * hi + lo := by
  have e1 : (Dg.zero.set 0 lo).n = lo := by rw [Dg.set_n _ _ _ (by omega) h1]; simp [Dg.zero]
  rw [Dg.set_n _ _ _ (by omega) h2, e1]
  omega

theorem COK_nil {P : Program} : COK P (look []) := fun _ _ h => by cases h
theorem COK_cons {P : Program} {f : Nat} {s : Sem'} {l : List (Nat × Sem')} (h : CallOK P f s) (hl : COK P (look l)) : COK P (look ((f, s) :: l)) := fun g t e => by
  simp only [look] at e
  split at e
  · rename_i hg
    simp only [beq_iff_eq] at hg
    simp only [Option.some.injEq] at e
    subst hg e
    exact h
  · exact hl g t e

end Go.Eng
