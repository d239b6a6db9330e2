/- What the functions on whole numbers tell, in plain words. -/
import Derived.Test.YtlcplkldielemaaEngR
set_option linter.all false
set_option exponentiation.threshold 3000
namespace Go.Eng

/-- how many words -/
def dSize (d : Dg) : Nat := if d.n = 0 then 0 else d.n.log2 / 32 + 1

structure SW where
  size : Dg → Int
  dcmp : Dg → Dg → Int
  told : Bool → Dg → Wd
  isW : Wd → Bool
  below : Wd → Bool
  from64 : Int → Wd
  bits : Wd → Int
  neg : Wd → Wd
  cmp : Wd → Wd → Int
  len32 : Int → Int
  one : Wd → Bool
  small : Wd → Bool
  gcd : Wd → Wd → Wd

def lenOf (n : Nat) : Nat := if n = 0 then 0 else n.log2 + 1

def mk1024 (n : Nat) : Dg := ⟨n % 2 ^ 1024, modlt _ 1024⟩
def tld (b : Bool) (d : Dg) : Wd := ⟨b && decide (d.n ≠ 0), d⟩
def wbelow (w : Wd) : Bool := w.neg && decide (w.d.n ≠ 0)
def sgn (a b : Int) : Int := if a < b then -1 else if b < a then 1 else 0
def wval (w : Wd) : Int := if w.neg then -(w.d.n : Int) else w.d.n

theorem gcd_lt {a b m : Nat} (ha : a < m) (hb : b < m) : Nat.gcd a b < m := by
  by_cases h : a = 0
  · subst h; simpa using hb
  · exact Nat.lt_of_le_of_lt (Nat.gcd_le_left b (Nat.pos_of_ne_zero h)) ha

def stdW : SW where
  size d := dSize d
  dcmp a b := sgn a.n b.n
  told := tld
  isW w := !w.neg || decide (w.d.n ≠ 0)
  below := wbelow
  from64 n := tld (decide (n < 0)) (mk1024 n.natAbs)
  bits w := ((lenOf w.d.n : Nat) : Int)
  neg w := tld (!wbelow w) w.d
  cmp a b := sgn (wval a) (wval b)
  len32 n := ((lenOf n.toNat : Nat) : Int)
  one w := decide (wval w = 1)
  small w := decide (w.d.n < 2 ^ 64)
  gcd a b := ⟨false, ⟨Nat.gcd a.d.n b.d.n, gcd_lt a.d.lt b.d.lt⟩⟩

end Go.Eng
