/- The engine, part A: the domain, symbolic values, atoms. -/
import Derived.Below
import Derived.Orders
import Derived.KernelRfl
set_option linter.all false
set_option exponentiation.threshold 3000
namespace Go.Eng

/-- 32 words of 32 bits, as one number. -/
structure Dg where
  n : Nat
  lt : n < 2 ^ 1024
  deriving DecidableEq
structure Wd where
  neg : Bool
  d : Dg
  deriving DecidableEq
structure Rt where
  N : Wd
  D : Wd
  deriving DecidableEq
structure Pt where
  X : Rt
  Y : Rt
  deriving DecidableEq

def Dg.dig (d : Dg) (i : Nat) : Nat := d.n / 2 ^ (32 * i) % 2 ^ 32

/-- one-cell symbolic values; 'lit', 'tt': known numbers, bools. Handles: 'hp id off' a pointer, 'hs id' a slice, 'hw' a part of one, 'ha' a part of an array, 'hm id' a map. -/
inductive Sc where
  | lit (k : IntKind) (n : Int)
  | int (k : IntKind) (n : Int)
  | tt (b : Bool)
  | bool (b : Bool)
  | str (s : ByteArray)
  | hp (id off : Nat)
  | pe (id base esz : Nat) (i : Int) (off : Nat)
  | hs (id : Nat)
  | ve (id esz : Nat) (i : Int) (off : Nat)
  | hw (id esz : Nat) (lo hi : Int)
  | ha (id off esz : Nat) (lo hi : Int) (cap : Nat)
  | hm (id : Nat)
  | nilp | nils | nilm
  | fn (f : Nat) (caps : List (Nat × Nat))
  | un

inductive At where
  | s (x : Sc)
  | D (d : Dg)
  | W (w : Wd)
  | R (r : Rt)
  | P (p : Pt)

inductive CV where
  | s (x : Sc)
  | g (l : List At)

inductive XV where
  | c (v : CV)
  | t (l : List CV)

def At.size : At → Nat
  | .s _ => 1 | .D _ => 32 | .W _ => 33 | .R _ => 66 | .P _ => 132

def At.expand : At → Option (List At)
  | .P p => some [.R p.X, .R p.Y]
  | .R r => some [.W r.N, .W r.D]
  | .W w => some [.s (.bool w.neg), .D w.d]
  | _ => none

def sizes : List At → Nat
  | [] => 0
  | a :: r => a.size + sizes r

/-- what is behind the first n cells -/
def dropA : Nat → Nat → List At → Option (List At)
  | _, 0, l => some l
  | 0, _ + 1, _ => none
  | _ + 1, _ + 1, [] => none
  | fuel + 1, n + 1, a :: r =>
    if a.size ≤ n + 1 then dropA fuel (n + 1 - a.size) r
    else match a.expand with
      | some ex => dropA fuel (n + 1) (ex ++ r)
      | none => none

/-- the first n cells -/
def takeA : Nat → Nat → List At → Option (List At)
  | _, 0, _ => some []
  | 0, _ + 1, _ => none
  | _ + 1, _ + 1, [] => none
  | fuel + 1, n + 1, a :: r =>
    if a.size ≤ n + 1 then match takeA fuel (n + 1 - a.size) r with
      | some l => some (a :: l)
      | none => none
    else match a.expand with
      | some ex => takeA fuel (n + 1) (ex ++ r)
      | none => none

def mcons : At → List At → List At
  | .s (.bool b), .D d :: r => .W ⟨b, d⟩ :: r
  | .s (.tt b), .D d :: r => .W ⟨b, d⟩ :: r
  | a, r => a :: r

def mWs : At → List At → List At
  | .W a, .W b :: r => .R ⟨a, b⟩ :: r
  | a, r => a :: r

def mRs : At → List At → List At
  | .R a, .R b :: r => .P ⟨a, b⟩ :: r
  | a, r => a :: r

def fold (f : At → List At → List At) : List At → List At
  | [] => []
  | a :: r => f a (fold f r)

def merge (l : List At) : List At := fold mRs (fold mWs (fold mcons l))

def subA (l : List At) (off n : Nat) : Option (List At) :=
  match dropA 400 off l with
  | some r => takeA 400 n r
  | none => none

def updA (l : List At) (off : Nat) (new : List At) : Option (List At) :=
  match takeA 400 off l, dropA 400 (off + sizes new) l with
  | some a, some b => some (merge (a ++ (new ++ b)))
  | _, _ => none

end Go.Eng
