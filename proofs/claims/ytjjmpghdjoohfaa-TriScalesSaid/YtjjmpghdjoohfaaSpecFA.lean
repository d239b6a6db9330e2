
import Derived.Test.YtjjmpghdjoohfaaSpecNA
set_option linter.all false
set_option exponentiation.threshold 3000
namespace Go.Eng
set_option maxRecDepth 100000
def rval (r : Rt) : Rat := Rat.divInt (wval r.N) (wval r.D)
def ofQ (q : Rat) : Rt := ⟨ofZ q.num, ofZ (q.den : Int)⟩
def isRt (r : Rt) : Bool := isWd r.N && (isWd r.D && (decide (0 < wval r.D) && decide (Int.gcd (wval r.N) (wval r.D) = 1)))
def zeroW : Wd := ⟨false, Dg.zero⟩
def zeroR : Rt := ⟨⟨false, Dg.zero⟩, ⟨false, Dg.zero⟩⟩
structure IsRt (r : Rt) : Prop where
  n : isWd r.N = true
  d : isWd r.D = true
  p : 0 < wval r.D
  g : Int.gcd (wval r.N) (wval r.D) = 1
theorem isRt_iff {r : Rt} : isRt r = true ↔ IsRt r := by
  unfold isRt
  simp only [Bool.and_eq_true, decide_eq_true_eq]
  exact ⟨fun ⟨a, b, c, d⟩ => ⟨a, b, c, d⟩, fun ⟨a, b, c, d⟩ => ⟨a, b, c, d⟩⟩
theorem rval_num {r : Rt} (h : IsRt r) : (rval r).num = wval r.N ∧ ((rval r).den : Int) = wval r.D := by
  unfold rval
  rw [Rat.num_divInt, Rat.den_divInt, Int.gcd_comm, h.g, if_neg (by have := h.p; omega)]
  have hs : (wval r.D).sign = 1 := Int.sign_eq_one_of_pos h.p
  have hp := h.p
  rw [hs]
  simp
  omega
theorem ofQ_rval {r : Rt} (h : IsRt r) : ofQ (rval r) = r := by
  obtain ⟨h1, h2⟩ := rval_num h
  unfold ofQ
  rw [h1, h2, ofZ_wval h.n, ofZ_wval h.d]
def FitQ (q : Rat) : Prop := fitZ q.num = true ∧ fitZ (q.den : Int) = true
theorem rval_ofQ {q : Rat} (h : FitQ q) : rval (ofQ q) = q := by
  unfold rval ofQ
  rw [wval_ofZ h.1, wval_ofZ h.2, Rat.divInt_ofNat, Rat.mkRat_self]
theorem isRt_ofQ {q : Rat} (h : FitQ q) : IsRt (ofQ q) := by
  have hd := q.den_pos
  refine ⟨isWd_ofZ _, isWd_ofZ _, ?_, ?_⟩
  · show 0 < wval (ofZ (q.den : Int))
    rw [wval_ofZ h.2]; omega
  · show Int.gcd (wval (ofZ q.num)) (wval (ofZ (q.den : Int))) = 1
    rw [wval_ofZ h.1, wval_ofZ h.2]
    exact q.reduced
def SmQ (k : Nat) (q : Rat) : Prop := Sm k q.num ∧ Sm k (q.den : Int)
theorem SmQ.fit {k : Nat} {q : Rat} (h : SmQ k q) (hk : k ≤ 1024) : FitQ q := ⟨h.1.fit hk, h.2.fit hk⟩
theorem SmQ.mono {j k : Nat} {q : Rat} (h : SmQ j q) (hk : j ≤ k) : SmQ k q := ⟨h.1.mono hk, h.2.mono hk⟩
theorem SmQ.div {k : Nat} {n d : Int} (hn : Sm k n) (hd : Sm k d) (h0 : d ≠ 0) : SmQ k (Rat.divInt n d) := by
  constructor
  · rw [Rat.num_divInt]
    refine hn.of_le ?_
    have h1 : (d.sign * n / (d.gcd n : Int)).natAbs ≤ (d.sign * n).natAbs := by
      rw [Int.natAbs_ediv_of_dvd ?_]
      · exact Nat.div_le_self _ _
      · exact Int.dvd_mul_of_dvd_right (Int.gcd_dvd_right ..)
    have h2 : (d.sign * n).natAbs ≤ n.natAbs := by
      rw [Int.natAbs_mul]
      have : d.sign.natAbs ≤ 1 := by rw [Int.natAbs_sign]; split <;> omega
      exact Nat.le_trans (Nat.mul_le_mul_right _ this) (by omega)
    exact Nat.le_trans h1 h2
  · rw [Rat.den_divInt, if_neg h0]
    refine hd.of_le ?_
    rw [Int.natAbs_natCast]
    exact Nat.div_le_self _ _
def sgnQ (a b : Rat) : Int := if a < b then -1 else if b < a then 1 else 0
def bitsW (w : Wd) : Int := ((lenOf w.d.n : Nat) : Int)
def safeR (r : Rt) (b : Int) : Bool := decide (bitsW r.N ≤ b) && (decide (bitsW r.D ≤ b) && isRt r)
structure SafeR (r : Rt) (k : Nat) : Prop where
  is : IsRt r
  n : Sm k (wval r.N)
  d : Sm k (wval r.D)
theorem safeR_of {r : Rt} {b : Int} (h : safeR r b = true) (hb : 0 ≤ b) : SafeR r b.toNat := by
  unfold safeR at h
  simp only [Bool.and_eq_true, decide_eq_true_eq] at h
  obtain ⟨h1, h2, h3⟩ := h
  exact ⟨isRt_iff.1 h3, Sm.bits (by unfold bitsW at h1; omega), Sm.bits (by unfold bitsW at h2; omega)⟩
theorem lenOf_sm {w : Wd} {k : Nat} (h : Sm k (wval w)) : bitsW w ≤ k := by
  unfold Sm at h
  rw [wval_abs] at h
  have := lenOf_le _ _ h
  unfold bitsW
  omega
theorem safeR_mk {r : Rt} {k : Nat} (h : SafeR r k) {b : Int} (hb : (k : Int) ≤ b) : safeR r b = true := by
  unfold safeR
  have h1 := lenOf_sm h.n
  have h2 := lenOf_sm h.d
  rw [decide_eq_true (by omega), decide_eq_true (by omega), isRt_iff.2 h.is]; rfl
theorem SafeR.q {r : Rt} {k : Nat} (h : SafeR r k) : SmQ k (rval r) := by
  obtain ⟨h1, h2⟩ := rval_num h.is
  exact ⟨by rw [h1]; exact h.n, by rw [h2]; exact h.d⟩
theorem SafeR.ofQ {q : Rat} {k : Nat} (h : SmQ k q) (hk : k ≤ 1024) : SafeR (ofQ q) k := by
  have hf := h.fit hk
  refine ⟨isRt_ofQ hf, ?_, ?_⟩
  · show Sm k (wval (ofZ q.num)); rw [wval_ofZ hf.1]; exact h.1
  · show Sm k (wval (ofZ (q.den : Int))); rw [wval_ofZ hf.2]; exact h.2
structure SF where
  li : Wd → Int
  liOK : Wd → Bool
  smN : Rt → Int
  smD : Rt → Int
  smOK : Rt → Bool
  com : Int → Int → Int
  made : Int → Int → Rt
  cmpI : Int → Int → Int
  b62 : Int → Bool
  isR : Rt → Bool
  safe : Rt → Int → Bool
  all : List Rt → Bool
  new : Wd → Wd → Rt
  newOK : Wd → Wd → Bool
  sign : Rt → Int
  two : Rt → Rt → Bool
  cmp : Rt → Rt → Int
  add : Rt → Rt → Rt
  sub : Rt → Rt → Rt
  mul : Rt → Rt → Rt
  div : Rt → Rt → Rt
  divOK : Rt → Rt → Bool
  neg : Rt → Rt
  sum : List Rt → Rt
  sumOK : List Rt → Bool
def liZ (w : Wd) : Int := if w.neg then -((w.d.dig 0 : Nat) : Int) else ((w.d.dig 0 : Nat) : Int)
def liB (w : Wd) : Bool := decide (w.d.n < 2 ^ 30)
def smB (r : Rt) : Bool := liB r.N && (liB r.D && isRt r)
def newB (n d : Wd) : Bool := decide (d.d.n ≠ 0) && (decide (bitsW n ≤ 1023) && (decide (bitsW d ≤ 1023) && (isWd n && isWd d)))
def twoB (a b : Rt) : Bool := safeR a 500 && safeR b 500
def sumR : Rt → List Rt → Rt × Bool
  | a, [] => (a, true)
  | a, w :: r => match twoB a w with
    | true => sumR (ofQ (rval a + rval w)) r
    | false => (zeroR, false)
def stdF : SF where
  li := liZ
  liOK := liB
  smN r := if smB r then wval r.N else 0
  smD r := if smB r then wval r.D else 0
  smOK := smB
  com a b := ((Nat.gcd a.natAbs b.natAbs : Nat) : Int)
  made n d := ofQ (Rat.divInt n d)
  cmpI a b := sgn a b
  b62 n := decide (-4611686018427387904 ≤ n) && decide (n ≤ 4611686018427387904)
  isR := isRt
  safe := safeR
  all l := l.all fun r => safeR r 500
  new n d := if newB n d then ofQ (Rat.divInt (wval n) (wval d)) else zeroR
  newOK := newB
  sign r := sgn (wval r.N) 0
  two := twoB
  cmp a b := if twoB a b then sgnQ (rval a) (rval b) else 0
  add a b := if twoB a b then ofQ (rval a + rval b) else zeroR
  sub a b := if twoB a b then ofQ (rval a - rval b) else zeroR
  mul a b := if twoB a b then ofQ (rval a * rval b) else zeroR
  div a b := if twoB a b && decide (rval b ≠ 0) then ofQ (rval a / rval b) else zeroR
  divOK a b := twoB a b && decide (rval b ≠ 0)
  neg r := ⟨stdW.neg r.N, r.D⟩
  sum l := (sumR ⟨zeroW, stdW.from64 1⟩ l).1
  sumOK l := (sumR ⟨zeroW, stdW.from64 1⟩ l).2
end Go.Eng
set_option linter.all false
set_option exponentiation.threshold 3000
namespace Go.Eng
set_option maxRecDepth 100000
theorem isWd_neg (w : Wd) : isWd (stdW.neg w) = true := by
  show isWd (tld (!wbelow w) w.d) = true
  rw [tld_ofZ]; exact isWd_ofZ _
theorem two_safe {a b : Rt} (h : twoB a b = true) : SafeR a 500 ∧ SafeR b 500 := by
  unfold twoB at h
  rw [Bool.and_eq_true] at h
  exact ⟨safeR_of h.1 (by decide), safeR_of h.2 (by decide)⟩
theorem sm_is {r : Rt} (h : smB r = true) : SafeR r 30 ∧ stdF.smN r = wval r.N ∧ stdF.smD r = wval r.D := by
  have e1 : stdF.smN r = wval r.N := by show (if smB r = true then _ else _) = _; rw [h]; rfl
  have e2 : stdF.smD r = wval r.D := by show (if smB r = true then _ else _) = _; rw [h]; rfl
  unfold smB at h
  rw [Bool.and_eq_true, Bool.and_eq_true] at h
  have h1 : r.N.d.n < 2 ^ 30 := of_decide_eq_true h.1
  have h2 : r.D.d.n < 2 ^ 30 := of_decide_eq_true h.2.1
  exact ⟨⟨isRt_iff.1 h.2.2, by unfold Sm; rw [wval_abs]; exact h1, by unfold Sm; rw [wval_abs]; exact h2⟩, e1, e2⟩
theorem sm_two {a b : Rt} (ha : smB a = true) (hb : smB b = true) : twoB a b = true := by
  unfold twoB
  rw [safeR_mk (sm_is ha).1 (by decide), safeR_mk (sm_is hb).1 (by decide)]; rfl
theorem cmp_q {a b : Rt} (ha : IsRt a) (hb : IsRt b) : sgn (wval a.N * wval b.D) (wval b.N * wval a.D) = sgnQ (rval a) (rval b) := by
  obtain ⟨a1, a2⟩ := rval_num ha
  obtain ⟨b1, b2⟩ := rval_num hb
  have e1 : rval a < rval b ↔ wval a.N * wval b.D < wval b.N * wval a.D := by rw [Rat.lt_iff, a1, a2, b1, b2]
  have e2 : rval b < rval a ↔ wval b.N * wval a.D < wval a.N * wval b.D := by rw [Rat.lt_iff, a1, a2, b1, b2]
  unfold sgn sgnQ
  simp only [e1, e2]
theorem rval_add {a b : Rt} (ha : IsRt a) (hb : IsRt b) : Rat.divInt (wval a.N * wval b.D + wval b.N * wval a.D) (wval a.D * wval b.D) = rval a + rval b := by
  unfold rval
  rw [Rat.divInt_add_divInt _ _ (by have := ha.p; omega) (by have := hb.p; omega)]
theorem rval_sub {a b : Rt} (ha : IsRt a) (hb : IsRt b) : Rat.divInt (wval a.N * wval b.D - wval b.N * wval a.D) (wval a.D * wval b.D) = rval a - rval b := by
  unfold rval
  rw [Rat.divInt_sub_divInt _ _ (by have := ha.p; omega) (by have := hb.p; omega)]
theorem rval_mul (a b : Rt) : Rat.divInt (wval a.N * wval b.N) (wval a.D * wval b.D) = rval a * rval b := by
  unfold rval
  rw [Rat.divInt_mul_divInt]
theorem rval_div (a b : Rt) : Rat.divInt (wval a.N * wval b.D) (wval a.D * wval b.N) = rval a / rval b := by
  unfold rval
  rw [Rat.div_def, Rat.inv_divInt, Rat.divInt_mul_divInt]
theorem rval_zero {r : Rt} (h : IsRt r) : rval r = 0 ↔ wval r.N = 0 := by
  rw [← Rat.num_eq_zero, (rval_num h).1]
theorem rval_sign {r : Rt} (h : IsRt r) : sgn (wval r.N) 0 = sgnQ (rval r) 0 := by
  have h1 := (rval_num h).1
  have e1 : rval r < 0 ↔ wval r.N < 0 := by rw [Rat.lt_iff, h1]; simp
  have e2 : 0 < rval r ↔ 0 < wval r.N := by rw [Rat.lt_iff, h1]; simp
  unfold sgn sgnQ
  simp only [e1, e2]
theorem new_q {n d : Wd} (h : newB n d = true) : stdF.new n d = ofQ (Rat.divInt (wval n) (wval d)) := by
  show (if newB n d = true then _ else _) = _
  rw [if_pos h]
theorem newB_mk {n d : Wd} (hn : Sm 1023 (wval n)) (hd : Sm 1023 (wval d)) (h0 : wval d ≠ 0) (in_ : isWd n = true) (id_ : isWd d = true) : newB n d = true := by
  unfold newB
  have := lenOf_sm hn
  have := lenOf_sm hd
  have h1 : d.d.n ≠ 0 := by have := wval_abs d; omega
  rw [decide_eq_true h1, decide_eq_true (show bitsW n ≤ 1023 by omega), decide_eq_true (show bitsW d ≤ 1023 by omega), in_, id_]; rfl
structure Prods (a b : Rt) : Prop where
  k1 : stdV.mulOK a.N b.D = true ∧ wval (stdV.mul a.N b.D) = wval a.N * wval b.D ∧ Sm 1000 (wval a.N * wval b.D)
  k2 : stdV.mulOK b.N a.D = true ∧ wval (stdV.mul b.N a.D) = wval b.N * wval a.D ∧ Sm 1000 (wval b.N * wval a.D)
  k3 : stdV.mulOK a.D b.D = true ∧ wval (stdV.mul a.D b.D) = wval a.D * wval b.D ∧ Sm 1000 (wval a.D * wval b.D)
  k4 : stdV.mulOK a.N b.N = true ∧ wval (stdV.mul a.N b.N) = wval a.N * wval b.N ∧ Sm 1000 (wval a.N * wval b.N)
  k5 : stdV.mulOK a.D b.N = true ∧ wval (stdV.mul a.D b.N) = wval a.D * wval b.N ∧ Sm 1000 (wval a.D * wval b.N)
theorem prods {a b : Rt} (ha : SafeR a 500) (hb : SafeR b 500) : Prods a b := by
  have key : ∀ x y : Wd, Sm 500 (wval x) → Sm 500 (wval y) → stdV.mulOK x y = true ∧ wval (stdV.mul x y) = wval x * wval y ∧ Sm 1000 (wval x * wval y) := fun x y hx hy => by
    have hs : Sm 1000 (wval x * wval y) := hx.mul hy
    obtain ⟨_, h2, h3⟩ := v_mul (x := x) (y := y) rfl rfl (hs.fit (by decide))
    exact ⟨h2, h3, hs⟩
  exact ⟨key _ _ ha.n hb.d, key _ _ hb.n ha.d, key _ _ ha.d hb.d, key _ _ ha.n hb.n, key _ _ ha.d hb.n⟩
theorem prod_ne {x y : Int} (hx : 0 < x) (hy : 0 < y) : x * y ≠ 0 := by
  have := Int.mul_pos hx hy
  omega
structure BigF (a b : Rt) : Prop where
  m1 : stdV.mulOK a.N b.D = true
  m2 : stdV.mulOK b.N a.D = true
  m3 : stdV.mulOK a.D b.D = true
  m4 : stdV.mulOK a.N b.N = true
  m5 : stdV.mulOK a.D b.N = true
  ad : stdV.addOK (stdV.mul a.N b.D) (stdV.mul b.N a.D) = true
  cmp : stdW.cmp (stdV.mul a.N b.D) (stdV.mul b.N a.D) = sgnQ (rval a) (rval b)
  add : stdF.new (stdV.add (stdV.mul a.N b.D) (stdV.mul b.N a.D)) (stdV.mul a.D b.D) = ofQ (rval a + rval b) ∧ stdF.newOK (stdV.add (stdV.mul a.N b.D) (stdV.mul b.N a.D)) (stdV.mul a.D b.D) = true
  mul : stdF.new (stdV.mul a.N b.N) (stdV.mul a.D b.D) = ofQ (rval a * rval b) ∧ stdF.newOK (stdV.mul a.N b.N) (stdV.mul a.D b.D) = true
  div : rval b ≠ 0 → stdF.new (stdV.mul a.N b.D) (stdV.mul a.D b.N) = ofQ (rval a / rval b) ∧ stdF.newOK (stdV.mul a.N b.D) (stdV.mul a.D b.N) = true
theorem big_f {a b : Rt} (h : twoB a b = true) : BigF a b := by
  obtain ⟨ha, hb⟩ := two_safe h
  obtain ⟨k1, k2, k3, k4, k5⟩ := prods ha hb
  have hs : Sm 1001 (wval a.N * wval b.D + wval b.N * wval a.D) := k1.2.2.add k2.2.2
  have e := v_add k1.2.1 k2.2.1 (hs.fit (by decide))
  refine ⟨k1.1, k2.1, k3.1, k4.1, k5.1, e.2.1, ?_, ?_, ?_, fun h0 => ?_⟩
  · show sgn (wval (stdV.mul a.N b.D)) (wval (stdV.mul b.N a.D)) = _
    rw [k1.2.1, k2.2.1]
    exact cmp_q ha.is hb.is
  · have hn : newB (stdV.add (stdV.mul a.N b.D) (stdV.mul b.N a.D)) (stdV.mul a.D b.D) = true :=
      newB_mk (by rw [e.2.2]; exact hs.mono (by decide)) (by rw [k3.2.1]; exact k3.2.2.mono (by decide)) (by rw [k3.2.1]; exact prod_ne ha.is.p hb.is.p) (isWd_add _ _) (isWd_mul _ _)
    exact ⟨by rw [new_q hn, e.2.2, k3.2.1, rval_add ha.is hb.is], hn⟩
  · have hn : newB (stdV.mul a.N b.N) (stdV.mul a.D b.D) = true :=
      newB_mk (by rw [k4.2.1]; exact k4.2.2.mono (by decide)) (by rw [k3.2.1]; exact k3.2.2.mono (by decide)) (by rw [k3.2.1]; exact prod_ne ha.is.p hb.is.p) (isWd_mul _ _) (isWd_mul _ _)
    exact ⟨by rw [new_q hn, k4.2.1, k3.2.1, rval_mul], hn⟩
  · have hz : wval b.N ≠ 0 := fun h => h0 ((rval_zero hb.is).2 h)
    have hn : newB (stdV.mul a.N b.D) (stdV.mul a.D b.N) = true :=
      newB_mk (by rw [k1.2.1]; exact k1.2.2.mono (by decide)) (by rw [k5.2.1]; exact k5.2.2.mono (by decide)) (by rw [k5.2.1]; exact Int.mul_ne_zero (by have := ha.is.p; omega) hz) (isWd_mul _ _) (isWd_mul _ _)
    exact ⟨by rw [new_q hn, k1.2.1, k5.2.1, rval_div], hn⟩
structure SmallF (A : Alg) (a b : Rt) : Prop where
  c : sgn (A.bin .mul .i64 (stdF.smN a) (stdF.smD b)) (A.bin .mul .i64 (stdF.smN b) (stdF.smD a)) = sgnQ (rval a) (rval b)
  o1 : stdF.b62 (A.bin .add .i64 (A.bin .mul .i64 (stdF.smN a) (stdF.smD b)) (A.bin .mul .i64 (stdF.smN b) (stdF.smD a))) = true
  o2 : stdF.b62 (A.bin .mul .i64 (stdF.smD a) (stdF.smD b)) = true
  o3 : A.cmp .neq (A.bin .mul .i64 (stdF.smD a) (stdF.smD b)) 0 = true
  add : stdF.made (A.bin .add .i64 (A.bin .mul .i64 (stdF.smN a) (stdF.smD b)) (A.bin .mul .i64 (stdF.smN b) (stdF.smD a))) (A.bin .mul .i64 (stdF.smD a) (stdF.smD b)) = ofQ (rval a + rval b)
  o4 : stdF.b62 (A.bin .sub .i64 (A.bin .mul .i64 (stdF.smN a) (stdF.smD b)) (A.bin .mul .i64 (stdF.smN b) (stdF.smD a))) = true
  sub : stdF.made (A.bin .sub .i64 (A.bin .mul .i64 (stdF.smN a) (stdF.smD b)) (A.bin .mul .i64 (stdF.smN b) (stdF.smD a))) (A.bin .mul .i64 (stdF.smD a) (stdF.smD b)) = ofQ (rval a - rval b)
  o5 : stdF.b62 (A.bin .mul .i64 (stdF.smN a) (stdF.smN b)) = true
  mul : stdF.made (A.bin .mul .i64 (stdF.smN a) (stdF.smN b)) (A.bin .mul .i64 (stdF.smD a) (stdF.smD b)) = ofQ (rval a * rval b)
  o6 : stdF.b62 (A.bin .mul .i64 (stdF.smN a) (stdF.smD b)) = true
  o7 : stdF.b62 (A.bin .mul .i64 (stdF.smD a) (stdF.smN b)) = true
  o8 : A.cmp .neq (stdF.smN b) 0 = true → A.cmp .neq (A.bin .mul .i64 (stdF.smD a) (stdF.smN b)) 0 = true
  div : stdF.made (A.bin .mul .i64 (stdF.smN a) (stdF.smD b)) (A.bin .mul .i64 (stdF.smD a) (stdF.smN b)) = ofQ (rval a / rval b)
  z : A.cmp .neq (stdF.smN b) 0 = decide (rval b ≠ 0)
theorem small_f {a b : Rt} (ha : smB a = true) (hb : smB b = true) (A : Alg) (hA : A = stdA) : SmallF A a b := by
  subst hA
  obtain ⟨sa, an, ad⟩ := sm_is ha
  obtain ⟨sb, bn, bd⟩ := sm_is hb
  have b62 : ∀ z : Int, Sm 61 z → stdF.b62 z = true := fun z hz => by
    have hz : z.natAbs < 2 ^ 61 := hz
    show (decide (-4611686018427387904 ≤ z) && decide (z ≤ 4611686018427387904)) = true
    rw [Bool.and_eq_true, decide_eq_true_eq, decide_eq_true_eq]
    omega
  have mu : ∀ x y : Int, Sm 30 x → Sm 30 y → stdA.bin .mul .i64 x y = x * y ∧ Sm 60 (x * y) := fun x y hx hy => by
    have h : Sm 60 (x * y) := hx.mul hy
    have h' : (x * y).natAbs < 2 ^ 60 := h
    refine ⟨?_, h⟩
    show IntKind.i64.wrap (x * y) = _
    rw [IntKind.wrap_i64]; omega
  have adl : ∀ x y : Int, Sm 60 x → Sm 60 y → stdA.bin .add .i64 x y = x + y ∧ Sm 61 (x + y) := fun x y hx hy => by
    have h : Sm 61 (x + y) := hx.add hy
    have h' : (x + y).natAbs < 2 ^ 61 := h
    refine ⟨?_, h⟩
    show IntKind.i64.wrap (x + y) = _
    rw [IntKind.wrap_i64]; omega
  have sul : ∀ x y : Int, Sm 60 x → Sm 60 y → stdA.bin .sub .i64 x y = x - y ∧ Sm 61 (x - y) := fun x y hx hy => by
    have h : Sm 61 (x - y) := hx.sub hy
    have h' : (x - y).natAbs < 2 ^ 61 := h
    refine ⟨?_, h⟩
    show IntKind.i64.wrap (x - y) = _
    rw [IntKind.wrap_i64]; omega
  obtain ⟨m1, s1⟩ := mu _ _ sa.n sb.d
  obtain ⟨m2, s2⟩ := mu _ _ sb.n sa.d
  obtain ⟨m3, s3⟩ := mu _ _ sa.d sb.d
  obtain ⟨m4, s4⟩ := mu _ _ sa.n sb.n
  obtain ⟨m5, s5⟩ := mu _ _ sa.d sb.n
  obtain ⟨m6, s6⟩ := adl _ _ s1 s2
  obtain ⟨m7, s7⟩ := sul _ _ s1 s2
  have hz : rval b = 0 ↔ wval b.N = 0 := rval_zero sb.is
  have nez : ∀ x : Int, x ≠ 0 → stdA.cmp .neq x 0 = true := fun x hx => by show (x != 0) = true; rw [bne_iff_ne]; exact hx
  refine ⟨?_, ?_, ?_, ?_, ?_, ?_, ?_, ?_, ?_, ?_, ?_, fun h => ?_, ?_, ?_⟩
  all_goals (try rw [an]); (try rw [ad]); (try rw [bn]); (try rw [bd])
  · rw [m1, m2]; exact cmp_q sa.is sb.is
  · rw [m1, m2, m6]; exact b62 _ s6
  · rw [m3]; exact b62 _ (s3.mono (by decide))
  · rw [m3]; exact nez _ (prod_ne sa.is.p sb.is.p)
  · rw [m1, m2, m3, m6]; show ofQ (Rat.divInt _ _) = _; rw [rval_add sa.is sb.is]
  · rw [m1, m2, m7]; exact b62 _ s7
  · rw [m1, m2, m3, m7]; show ofQ (Rat.divInt _ _) = _; rw [rval_sub sa.is sb.is]
  · rw [m4]; exact b62 _ (s4.mono (by decide))
  · rw [m4, m3]; show ofQ (Rat.divInt _ _) = _; rw [rval_mul]
  · rw [m1]; exact b62 _ (s1.mono (by decide))
  · rw [m5]; exact b62 _ (s5.mono (by decide))
  · rw [m5]
    refine nez _ (Int.mul_ne_zero (by have := sa.is.p; omega) ?_)
    have h : (stdF.smN b != 0) = true := h
    rw [bn, bne_iff_ne] at h
    exact h
  · rw [m1, m5]; show ofQ (Rat.divInt _ _) = _; rw [rval_div]
  · show (wval b.N != 0) = decide (rval b ≠ 0)
    by_cases h : wval b.N = 0
    · rw [decide_eq_false (by simp [hz.2 h]), h]; rfl
    · rw [decide_eq_true (show rval b ≠ 0 from fun h' => h (hz.1 h')), bne_iff_ne]; exact h
theorem neg_f {r : Rt} {k : Nat} (h : SafeR r k) : SafeR (stdF.neg r) k ∧ rval (stdF.neg r) = -rval r := by
  have hw := wval_neg r.N
  constructor
  · refine ⟨⟨isWd_neg _, h.is.d, h.is.p, ?_⟩, ?_, h.d⟩
    · show Int.gcd (wval (stdW.neg r.N)) (wval r.D) = 1
      rw [hw, Int.neg_gcd]; exact h.is.g
    · show Sm k (wval (stdW.neg r.N))
      rw [hw]; exact h.n.neg
  · show Rat.divInt (wval (stdW.neg r.N)) (wval r.D) = _
    rw [hw]
    unfold rval
    rw [Rat.neg_divInt]
end Go.Eng
set_option linter.all false
set_option exponentiation.threshold 3000
namespace Go.Eng
set_option maxRecDepth 100000
structure Cal (r : Rt) (q : Rat) (k : Nat) : Prop where
  s : SafeR r k
  v : rval r = q
theorem SafeR.mono {r : Rt} {j k : Nat} (h : SafeR r j) (hk : j ≤ k) : SafeR r k := ⟨h.is, h.n.mono hk, h.d.mono hk⟩
theorem Cal.mono {r : Rt} {q : Rat} {j k : Nat} (h : Cal r q j) (hk : j ≤ k) : Cal r q k := ⟨h.s.mono hk, h.v⟩
theorem Cal.of {r : Rt} {k : Nat} (h : SafeR r k) : Cal r (rval r) k := ⟨h, rfl⟩
theorem Cal.eq {r : Rt} {q : Rat} {k : Nat} (h : Cal r q k) : r = ofQ q := by rw [← h.v, ofQ_rval h.s.is]
theorem Cal.q {q : Rat} {k : Nat} (h : SmQ k q) (hk : k ≤ 1024) : Cal (ofQ q) q k := ⟨SafeR.ofQ h hk, rval_ofQ (h.fit hk)⟩
theorem Cal.inj {r s : Rt} {p q : Rat} {j k : Nat} (hr : Cal r p j) (hs : Cal s q k) (h : p = q) : r = s := by rw [hr.eq, hs.eq, h]
theorem Cal.sm {r : Rt} {q : Rat} {k : Nat} (h : Cal r q k) : SmQ k q := by rw [← h.v]; exact h.s.q
theorem two_mk {a b : Rt} {j k : Nat} (ha : SafeR a j) (hb : SafeR b k) (hj : j ≤ 500) (hk : k ≤ 500) : twoB a b = true := by
  unfold twoB
  rw [safeR_mk ha (by omega), safeR_mk hb (by omega)]; rfl
theorem Cal.add {a b : Rt} {p q : Rat} {k : Nat} (ha : Cal a p k) (hb : Cal b q k) (hk : k ≤ 500) : stdF.two a b = true ∧ Cal (stdF.add a b) (p + q) (2 * k + 1) := by
  have h2 : twoB a b = true := two_mk ha.s hb.s hk hk
  refine ⟨h2, ?_⟩
  have e : stdF.add a b = ofQ (p + q) := by show (if twoB a b = true then _ else _) = _; rw [h2, ha.v, hb.v]; rfl
  rw [e]
  refine Cal.q ?_ (by omega)
  rw [← ha.v, ← hb.v, ← rval_add ha.s.is hb.s.is]
  have s1 : Sm (2 * k) (wval a.N * wval b.D) := by rw [Nat.two_mul]; exact ha.s.n.mul hb.s.d
  have s2 : Sm (2 * k) (wval b.N * wval a.D) := by rw [Nat.two_mul]; exact hb.s.n.mul ha.s.d
  have s3 : Sm (2 * k) (wval a.D * wval b.D) := by rw [Nat.two_mul]; exact ha.s.d.mul hb.s.d
  exact SmQ.div (s1.add s2) (s3.mono (by omega)) (prod_ne ha.s.is.p hb.s.is.p)
theorem Cal.sub {a b : Rt} {p q : Rat} {k : Nat} (ha : Cal a p k) (hb : Cal b q k) (hk : k ≤ 500) : stdF.two a b = true ∧ Cal (stdF.sub a b) (p - q) (2 * k + 1) := by
  have h2 : twoB a b = true := two_mk ha.s hb.s hk hk
  refine ⟨h2, ?_⟩
  have e : stdF.sub a b = ofQ (p - q) := by show (if twoB a b = true then _ else _) = _; rw [h2, ha.v, hb.v]; rfl
  rw [e]
  refine Cal.q ?_ (by omega)
  rw [← ha.v, ← hb.v, ← rval_sub ha.s.is hb.s.is]
  have s1 : Sm (2 * k) (wval a.N * wval b.D) := by rw [Nat.two_mul]; exact ha.s.n.mul hb.s.d
  have s2 : Sm (2 * k) (wval b.N * wval a.D) := by rw [Nat.two_mul]; exact hb.s.n.mul ha.s.d
  have s3 : Sm (2 * k) (wval a.D * wval b.D) := by rw [Nat.two_mul]; exact ha.s.d.mul hb.s.d
  exact SmQ.div (s1.sub s2) (s3.mono (by omega)) (prod_ne ha.s.is.p hb.s.is.p)
theorem Cal.mul {a b : Rt} {p q : Rat} {k : Nat} (ha : Cal a p k) (hb : Cal b q k) (hk : k ≤ 500) : stdF.two a b = true ∧ Cal (stdF.mul a b) (p * q) (2 * k) := by
  have h2 : twoB a b = true := two_mk ha.s hb.s hk hk
  refine ⟨h2, ?_⟩
  have e : stdF.mul a b = ofQ (p * q) := by show (if twoB a b = true then _ else _) = _; rw [h2, ha.v, hb.v]; rfl
  rw [e]
  refine Cal.q ?_ (by omega)
  rw [← ha.v, ← hb.v, ← rval_mul, Nat.two_mul]
  exact SmQ.div (ha.s.n.mul hb.s.n) (ha.s.d.mul hb.s.d) (prod_ne ha.s.is.p hb.s.is.p)
theorem Cal.div {a b : Rt} {p q : Rat} {k : Nat} (ha : Cal a p k) (hb : Cal b q k) (hk : k ≤ 500) (h0 : q ≠ 0) : stdF.divOK a b = true ∧ Cal (stdF.div a b) (p / q) (2 * k) := by
  have h2 : twoB a b = true := two_mk ha.s hb.s hk hk
  have h3 : (twoB a b && decide (rval b ≠ 0)) = true := by rw [h2, hb.v, decide_eq_true h0]; rfl
  refine ⟨h3, ?_⟩
  have e : stdF.div a b = ofQ (p / q) := by show (if (twoB a b && decide (rval b ≠ 0)) = true then _ else _) = _; rw [h3, ha.v, hb.v]; rfl
  rw [e]
  refine Cal.q ?_ (by omega)
  have hz : wval b.N ≠ 0 := fun h => h0 (by rw [← hb.v]; exact (rval_zero hb.s.is).2 h)
  rw [← ha.v, ← hb.v, ← rval_div, Nat.two_mul]
  exact SmQ.div (ha.s.n.mul hb.s.d) (ha.s.d.mul hb.s.n) (Int.mul_ne_zero (by have := ha.s.is.p; omega) hz)
theorem Cal.cmp {a b : Rt} {p q : Rat} {k : Nat} (ha : Cal a p k) (hb : Cal b q k) (hk : k ≤ 500) : stdF.two a b = true ∧ stdF.cmp a b = sgnQ p q := by
  have h2 : twoB a b = true := two_mk ha.s hb.s hk hk
  refine ⟨h2, ?_⟩
  show (if twoB a b = true then _ else _) = _
  rw [h2, ha.v, hb.v]; rfl
theorem Cal.sign {a : Rt} {p : Rat} {k : Nat} (ha : Cal a p k) : stdF.sign a = sgnQ p 0 := by
  show sgn _ _ = _
  rw [rval_sign ha.s.is, ha.v]
theorem smQ_int {k : Nat} {z : Int} (hz : Sm k z) (hk : 1 ≤ k) : SmQ k (z : Rat) := by
  refine ⟨?_, ?_⟩
  · rw [Rat.num_intCast]; exact hz
  · rw [Rat.den_intCast]
    show (1 : Int).natAbs < 2 ^ k
    have := Nat.pow_lt_pow_right (a := 2) (by decide) (show 0 < k by omega)
    omega
theorem Cal.int {k : Nat} {z : Int} (hz : Sm k z) (hk : 1 ≤ k) (h : k ≤ 1024) : Cal (ofQ (z : Rat)) (z : Rat) k := Cal.q (smQ_int hz hk) h
theorem new_int {x : Int} (hx : Sm 64 x) : stdF.new (stdW.from64 x) (stdW.from64 1) = ofQ (x : Rat) ∧ stdF.newOK (stdW.from64 x) (stdW.from64 1) = true ∧ (⟨stdW.from64 x, stdW.from64 1⟩ : Rt) = ofQ (x : Rat) := by
  have e1 : wval (stdW.from64 x) = x := wval_ofZ (hx.fit (by decide))
  have e2 : wval (stdW.from64 1) = 1 := wval_from (by decide)
  have hn : newB (stdW.from64 x) (stdW.from64 1) = true := newB_mk (by rw [e1]; exact hx.mono (by decide)) (by rw [e2]; show (1 : Int).natAbs < 2 ^ 1023; decide) (by rw [e2]; decide) (isWd_ofZ _) (isWd_ofZ _)
  refine ⟨?_, hn, ?_⟩
  · rw [new_q hn, e1, e2]
    have h := Rat.num_divInt_den (x : Rat)
    rw [Rat.num_intCast, Rat.den_intCast] at h
    exact congrArg ofQ h
  · unfold ofQ
    rw [Rat.num_intCast, Rat.den_intCast]
    rfl
def ptOK (p : Pt) : Bool := safeR p.X 60 && safeR p.Y 60
def allP (l : List Pt) : Bool := l.all ptOK
structure IsPt (p : Pt) : Prop where
  x : SafeR p.X 60
  y : SafeR p.Y 60
theorem isPt_of {p : Pt} (h : ptOK p = true) : IsPt p := by
  unfold ptOK at h
  rw [Bool.and_eq_true] at h
  exact ⟨safeR_of h.1 (by decide), safeR_of h.2 (by decide)⟩
theorem isPt_iff {p : Pt} : ptOK p = true ↔ IsPt p := ⟨isPt_of, fun h => by unfold ptOK; rw [safeR_mk h.x (by decide), safeR_mk h.y (by decide)]; rfl⟩
def px (p : Pt) : Rat := rval p.X
def py (p : Pt) : Rat := rval p.Y
def crossQ (a b c : Pt) : Rat := (px b - px a) * (py c - py a) - (py b - py a) * (px c - px a)
def dotQ (a b c : Pt) : Rat := (px b - px a) * (px c - px a) + (py b - py a) * (py c - py a)
structure SH where
  at_ : Int → Int → Pt
  all : List Pt → Bool
  cmp : Pt → Pt → Int
  cross : Pt → Pt → Pt → Rt
  dot : Pt → Pt → Pt → Rt
  turn : Pt → Pt → Pt → Int
  mid : List Pt → Pt
  midOK : List Pt → Bool
  ends : Bool → Rt → Rt
  xs : List Pt → List Rt
  ys : List Pt → List Rt
  whole : Int → Rt
  half : Int → Rt
def zeroP : Pt := ⟨zeroR, zeroR⟩
def pcmp (a b : Pt) : Int := if sgnQ (px a) (px b) ≠ 0 then sgnQ (px a) (px b) else sgnQ (py a) (py b)
def sumQ : List Rat → Rat
  | [] => 0
  | q :: r => q + sumQ r
def midB (l : List Pt) : Bool := decide (l.length ≠ 0) && (decide (l.length ≤ 4) && allP l)
def midP (l : List Pt) : Pt := ⟨ofQ (sumQ (l.map px) / (l.length : Int)), ofQ (sumQ (l.map py) / (l.length : Int))⟩
def stdH : SH where
  at_ x y := ⟨ofQ (x : Rat), ofQ (y : Rat)⟩
  all := allP
  cmp a b := if allP [a, b] then pcmp a b else 0
  cross a b c := if allP [a, b, c] then ofQ (crossQ a b c) else zeroR
  dot a b c := if allP [a, b, c] then ofQ (dotQ a b c) else zeroR
  turn a b c := if allP [a, b, c] then sgnQ (crossQ a b c) 0 else 0
  mid l := if midB l then midP l else zeroP
  midOK := midB
  ends c r := if c then zeroR else r
  xs l := l.map Pt.X
  ys l := l.map Pt.Y
  whole z := ofQ (z : Rat)
  half z := ofQ ((z : Rat) / 2)
end Go.Eng
set_option linter.all false
set_option exponentiation.threshold 3000
namespace Go.Eng
set_option maxRecDepth 100000
theorem eqR_of {a b : Rt} (h : a = b) : stdA.eqR a b = true := by subst h; exact decide_eq_true rfl
theorem eqP_of {a b : Pt} (h : a = b) : stdA.eqP a b = true := by subst h; exact decide_eq_true rfl
structure AtP (p : Pt) (x y : Int) : Prop where
  is : ptOK p = true
  x : px p = x
  y : py p = y
theorem atP {x y : Int} (hx : Sm 60 x) (hy : Sm 60 y) : AtP (stdH.at_ x y) x y := by
  have cx := Cal.int hx (by decide) (by decide)
  have cy := Cal.int hy (by decide) (by decide)
  exact ⟨isPt_iff.2 ⟨cx.s, cy.s⟩, cx.v, cy.v⟩
theorem IsPt.eq {p : Pt} (h : IsPt p) : p = ⟨ofQ (px p), ofQ (py p)⟩ := by
  have e1 : ofQ (px p) = p.X := ofQ_rval h.x.is
  have e2 : ofQ (py p) = p.Y := ofQ_rval h.y.is
  rw [e1, e2]
theorem IsPt.inj {p q : Pt} (hp : IsPt p) (hq : IsPt q) (hx : px p = px q) (hy : py p = py q) : p = q := by rw [hp.eq, hq.eq, hx, hy]
theorem all3 {a b c : Pt} (ha : ptOK a = true) (hb : ptOK b = true) (hc : ptOK c = true) : allP [a, b, c] = true := by
  show (ptOK a && (ptOK b && (ptOK c && true))) = true
  rw [ha, hb, hc]; rfl
theorem all2 {a b : Pt} (ha : ptOK a = true) (hb : ptOK b = true) : allP [a, b] = true := by
  show (ptOK a && (ptOK b && true)) = true
  rw [ha, hb]; rfl
theorem cross_ok {a b c : Pt} (h : allP [a, b, c] = true) : stdH.cross a b c = ofQ (crossQ a b c) := if_pos h
theorem dot_ok {a b c : Pt} (h : allP [a, b, c] = true) : stdH.dot a b c = ofQ (dotQ a b c) := if_pos h
theorem turn_ok {a b c : Pt} (h : allP [a, b, c] = true) : stdH.turn a b c = sgnQ (crossQ a b c) 0 := if_pos h
theorem cmp_ok {a b : Pt} (h : allP [a, b] = true) : stdH.cmp a b = pcmp a b := if_pos h
theorem cross_int {a b c : Pt} {ax ay bx by_ cx cy : Int} (ha : AtP a ax ay) (hb : AtP b bx by_) (hc : AtP c cx cy) : crossQ a b c = (((bx - ax) * (cy - ay) - (by_ - ay) * (cx - ax) : Int) : Rat) := by
  unfold crossQ
  rw [ha.x, ha.y, hb.x, hb.y, hc.x, hc.y]
  simp only [Rat.intCast_sub, Rat.intCast_mul]
theorem dot_int {a b c : Pt} {ax ay bx by_ cx cy : Int} (ha : AtP a ax ay) (hb : AtP b bx by_) (hc : AtP c cx cy) : dotQ a b c = (((bx - ax) * (cx - ax) + (by_ - ay) * (cy - ay) : Int) : Rat) := by
  unfold dotQ
  rw [ha.x, ha.y, hb.x, hb.y, hc.x, hc.y]
  simp only [Rat.intCast_sub, Rat.intCast_mul, Rat.intCast_add]
theorem sgnQ_int (m n : Int) : sgnQ (m : Rat) (n : Rat) = sgn m n := by
  unfold sgnQ sgn
  simp only [Rat.intCast_lt_intCast]
theorem sgnQ_int0 (m : Int) : sgnQ (m : Rat) 0 = sgn m 0 := sgnQ_int m 0
end Go.Eng
namespace Go.Eng
theorem sgnQ_cases (a b : Rat) : (a < b ∧ sgnQ a b = -1 ∧ sgnQ b a = 1) ∨ (a = b ∧ sgnQ a b = 0 ∧ sgnQ b a = 0) ∨ (b < a ∧ sgnQ a b = 1 ∧ sgnQ b a = -1) := by
  unfold sgnQ
  by_cases h1 : a < b
  · have h2 : ¬ b < a := by grind
    exact .inl ⟨h1, by rw [if_pos h1], by rw [if_neg h2, if_pos h1]⟩
  · by_cases h2 : b < a
    · exact .inr (.inr ⟨h2, by rw [if_neg h1, if_pos h2], by rw [if_pos h2]⟩)
    · have e : a = b := Rat.le_antisymm (Rat.not_lt.1 h2) (Rat.not_lt.1 h1)
      exact .inr (.inl ⟨e, by rw [if_neg h1, if_neg h2], by rw [if_neg h2, if_neg h1]⟩)
theorem pcmp_cases (a b : Pt) : ((px a < px b ∨ (px a = px b ∧ py a < py b)) ∧ pcmp a b = -1 ∧ pcmp b a = 1) ∨ (px a = px b ∧ py a = py b ∧ pcmp a b = 0 ∧ pcmp b a = 0) ∨ ((px b < px a ∨ (px a = px b ∧ py b < py a)) ∧ pcmp a b = 1 ∧ pcmp b a = -1) := by
  unfold pcmp
  rcases sgnQ_cases (px a) (px b) with ⟨h, e1, e2⟩ | ⟨h, e1, e2⟩ | ⟨h, e1, e2⟩
  · rw [e1, e2]; exact .inl ⟨.inl h, rfl, rfl⟩
  · rw [e1, e2]
    rcases sgnQ_cases (py a) (py b) with ⟨h', e3, e4⟩ | ⟨h', e3, e4⟩ | ⟨h', e3, e4⟩
    · rw [e3, e4]; exact .inl ⟨.inr ⟨h, h'⟩, rfl, rfl⟩
    · rw [e3, e4]; exact .inr (.inl ⟨h, h', rfl, rfl⟩)
    · rw [e3, e4]; exact .inr (.inr ⟨.inr ⟨h, h'⟩, rfl, rfl⟩)
  · rw [e1, e2]; exact .inr (.inr ⟨.inl h, rfl, rfl⟩)
end Go.Eng
set_option linter.all false
set_option exponentiation.threshold 3000
namespace Go.Eng
set_option maxRecDepth 100000
structure SK where
  tyN : Rt → Int
  tyD : Rt → Int
  tyOK : Rt → Bool
  b63 : Int → Bool
  b31 : Int → Bool
  plus : Bool → Rt → Rt → Rt
def tyB (r : Rt) : Bool := decide (r.N.d.n < 2 ^ 31) && (decide (r.D.d.n < 2 ^ 31) && isRt r)
def stdK : SK where
  tyN r := if tyB r then wval r.N else 0
  tyD r := if tyB r then wval r.D else 0
  tyOK := tyB
  b63 n := decide (-9223372036854775807 ≤ n) && decide (n ≤ 9223372036854775807)
  b31 n := decide (-2147483648 ≤ n) && decide (n ≤ 2147483648)
  plus l a b := if l then stdF.sub a b else stdF.add a b
theorem b63_iff {n : Int} : stdK.b63 n = true ↔ -9223372036854775807 ≤ n ∧ n ≤ 9223372036854775807 := by
  show (decide (-9223372036854775807 ≤ n) && decide (n ≤ 9223372036854775807)) = true ↔ _
  rw [Bool.and_eq_true, decide_eq_true_eq, decide_eq_true_eq]
theorem ty_is {r : Rt} (h : tyB r = true) : SafeR r 31 ∧ stdK.tyN r = wval r.N ∧ stdK.tyD r = wval r.D := by
  have e1 : stdK.tyN r = wval r.N := by show (if tyB r = true then _ else _) = _; rw [h]; rfl
  have e2 : stdK.tyD r = wval r.D := by show (if tyB r = true then _ else _) = _; rw [h]; rfl
  unfold tyB at h
  rw [Bool.and_eq_true, Bool.and_eq_true] at h
  have h1 : r.N.d.n < 2 ^ 31 := of_decide_eq_true h.1
  have h2 : r.D.d.n < 2 ^ 31 := of_decide_eq_true h.2.1
  exact ⟨⟨isRt_iff.1 h.2.2, by unfold Sm; rw [wval_abs]; exact h1, by unfold Sm; rw [wval_abs]; exact h2⟩, e1, e2⟩
end Go.Eng
set_option linter.all false
set_option exponentiation.threshold 3000
namespace Go.Eng
set_option maxRecDepth 100000
theorem rsq (x : Rat) : 0 ≤ x * x := by
  rcases (Rat.le_total : 0 ≤ x ∨ x ≤ 0) with h | h
  · exact Rat.mul_nonneg h h
  · have := Rat.mul_nonneg (a := -x) (b := -x) (by grind) (by grind); grind
theorem rsq_zero {x : Rat} (h : x * x = 0) : x = 0 := by
  rcases Rat.mul_eq_zero.1 h with h | h <;> exact h
theorem rsq_pos {x : Rat} (h : x ≠ 0) : 0 < x * x := by
  have := rsq x
  rcases Rat.le_iff_lt_or_eq.1 this with h1 | h1
  · exact h1
  · exact absurd (rsq_zero h1.symm) h
theorem sq2_zero {x y : Rat} (h : x * x + y * y ≤ 0) : x = 0 ∧ y = 0 := by
  have h1 := rsq x
  have h2 := rsq y
  exact ⟨rsq_zero (by grind), rsq_zero (by grind)⟩
theorem sq2_pos {x y : Rat} (h : x ≠ 0 ∨ y ≠ 0) : 0 < x * x + y * y := by
  have h1 := rsq x
  have h2 := rsq y
  rcases h with h | h
  · have := rsq_pos h; grind
  · have := rsq_pos h; grind
theorem mul_neg_of {a b : Rat} (ha : 0 < a) (hb : b < 0) : a * b < 0 := by
  have := Rat.mul_pos (a := a) (b := -b) ha (by grind); grind
theorem nonneg_of_mul {a b : Rat} (ha : 0 < a) (h : 0 ≤ a * b) : 0 ≤ b := by
  rcases (Rat.le_total : 0 ≤ b ∨ b ≤ 0) with h1 | h1
  · exact h1
  · rcases Rat.le_iff_lt_or_eq.1 h1 with h2 | h2
    · have := mul_neg_of ha h2; grind
    · grind
def lexP (x y : Rat) : Prop := 0 < x ∨ (x = 0 ∧ 0 < y)
theorem lex_dot {ux uy vx vy : Rat} (hc : ux * vy - uy * vx = 0) (hu : lexP ux uy) (hv : lexP vx vy) : 0 < ux * vx + uy * vy := by
  rcases hu with hu | ⟨hu, hu'⟩
  · rcases hv with hv | ⟨hv, hv'⟩
    · have h1 := Rat.mul_pos hu hv
      have h2 : 0 ≤ (ux * vx) * (uy * vy) := by
        have e : (ux * vx) * (uy * vy) = (uy * vx) * (uy * vx) := by grind
        rw [e]; exact rsq _
      have := nonneg_of_mul h1 h2
      grind
    · have h1 := Rat.mul_pos hu hv'
      have e : ux * vy = 0 := by grind
      grind
  · rcases hv with hv | ⟨hv, hv'⟩
    · have h1 := Rat.mul_pos hu' hv
      have e : uy * vx = 0 := by grind
      grind
    · have h1 := Rat.mul_pos hu' hv'
      have e : ux * vx = 0 := by grind
      grind
theorem lex_dotn {ux uy vx vy : Rat} (hc : ux * vy - uy * vx = 0) (hu : lexP ux uy) (hv : lexP (-vx) (-vy)) : ux * vx + uy * vy < 0 := by
  have := lex_dot (ux := ux) (uy := uy) (vx := -vx) (vy := -vy) (by grind) hu hv
  grind
theorem pcmp_lex (a b : Pt) : (lexP (px b - px a) (py b - py a) ∧ pcmp a b = -1) ∨ (px b - px a = 0 ∧ py b - py a = 0 ∧ pcmp a b = 0) ∨ (lexP (-(px b - px a)) (-(py b - py a)) ∧ pcmp a b = 1) := by
  rcases pcmp_cases a b with ⟨h, e, _⟩ | ⟨h1, h2, e, _⟩ | ⟨h, e, _⟩
  · refine .inl ⟨?_, e⟩
    rcases h with h | ⟨h, h'⟩
    · exact .inl (by grind)
    · exact .inr ⟨by grind, by grind⟩
  · exact .inr (.inl ⟨by grind, by grind, e⟩)
  · refine .inr (.inr ⟨?_, e⟩)
    rcases h with h | ⟨h, h'⟩
    · exact .inl (by grind)
    · exact .inr ⟨by grind, by grind⟩
def onP (a b p : Pt) : Bool := decide (crossQ a b p = 0) && decide (dotQ p a b ≤ 0)
theorem on_order {a b p : Pt} (hc : crossQ a b p = 0) : (0 ≤ pcmp a p * pcmp p b) ↔ dotQ p a b ≤ 0 := by
  have h1 : (px p - px a) * (py b - py p) - (py p - py a) * (px b - px p) = 0 := by
    unfold crossQ at hc; grind
  have h2 : dotQ p a b = -((px p - px a) * (px b - px p) + (py p - py a) * (py b - py p)) := by
    unfold dotQ; grind
  rw [h2]
  rcases pcmp_lex a p with ⟨hu, eu⟩ | ⟨hu, hu', eu⟩ | ⟨hu, eu⟩ <;> rcases pcmp_lex p b with ⟨hv, ev⟩ | ⟨hv, hv', ev⟩ | ⟨hv, ev⟩ <;> rw [eu, ev]
  · have := lex_dot h1 hu hv
    exact ⟨fun _ => by grind, fun _ => by decide⟩
  · exact ⟨fun _ => by grind, fun _ => by decide⟩
  · have := lex_dotn h1 hu hv
    exact ⟨fun h => absurd h (by decide), fun _ => by grind⟩
  · exact ⟨fun _ => by grind, fun _ => by decide⟩
  · exact ⟨fun _ => by grind, fun _ => by decide⟩
  · exact ⟨fun _ => by grind, fun _ => by decide⟩
  · have e1 : - -(px b - px p) = px b - px p := by grind
    have e2 : - -(py b - py p) = py b - py p := by grind
    have := lex_dotn (ux := -(px p - px a)) (uy := -(py p - py a)) (vx := -(px b - px p)) (vy := -(py b - py p)) (by grind) hu (by rw [e1, e2]; exact hv)
    exact ⟨fun h => absurd h (by decide), fun _ => by grind⟩
  · exact ⟨fun _ => by grind, fun _ => by decide⟩
  · have := lex_dot (ux := -(px p - px a)) (uy := -(py p - py a)) (vx := -(px b - px p)) (vy := -(py b - py p)) (by grind) hu hv
    exact ⟨fun _ => by grind, fun _ => by decide⟩
theorem sgnQ_zero {q : Rat} : sgnQ q 0 = 0 ↔ q = 0 := by
  rcases sgnQ_cases q 0 with ⟨h, e, _⟩ | ⟨h, e, _⟩ | ⟨h, e, _⟩ <;> rw [e] <;> constructor <;> intro h' <;> first | exact h | grind | cases h' | rfl
theorem pcmp_zero {a b : Pt} (ha : IsPt a) (hb : IsPt b) : pcmp a b = 0 ↔ a = b := by
  constructor
  · intro h
    rcases pcmp_cases a b with ⟨_, e, _⟩ | ⟨h1, h2, _, _⟩ | ⟨_, e, _⟩
    · rw [e] at h; cases h
    · exact ha.inj hb h1 h2
    · rw [e] at h; cases h
  · rintro rfl
    rcases pcmp_cases a a with ⟨h, e, _⟩ | ⟨h1, h2, e, _⟩ | ⟨h, e, _⟩
    · exfalso; grind
    · exact e
    · exfalso; grind
theorem has_on {a b p : Pt} (h : allP [a, b, p] = true) : (decide (0 ≤ pcmp a p * pcmp p b) && (decide (sgnQ (crossQ a b p) 0 = 0) && (decide (pcmp a p ≠ 0) || (decide (pcmp p b ≠ 0) || (decide (p = a) || decide (p = b)))))) = onP a b p := by
  have h : (ptOK a && (ptOK b && (ptOK p && true))) = true := h
  simp only [Bool.and_true, Bool.and_eq_true] at h
  have ha := isPt_of h.1
  have hb := isPt_of h.2.1
  have hp := isPt_of h.2.2
  have e3 : (decide (pcmp a p ≠ 0) || (decide (pcmp p b ≠ 0) || (decide (p = a) || decide (p = b)))) = true := by
    by_cases hz : pcmp a p = 0
    · rw [(pcmp_zero ha hp).1 hz]; simp
    · rw [decide_eq_true hz]; rfl
  rw [e3, Bool.and_true]
  unfold onP
  by_cases hc : crossQ a b p = 0
  · rw [decide_eq_true (sgnQ_zero.2 hc), decide_eq_true hc, Bool.and_true, Bool.true_and, decide_eq_decide]
    exact on_order hc
  · rw [decide_eq_false (fun h => hc (sgnQ_zero.1 h)), decide_eq_false hc, Bool.and_false]; rfl
def eok (e u v : Pt) : Bool := (!onP e v u || decide (u = e)) && (!onP e u v || decide (v = e))
def crossing (a b c d : Pt) : Bool := decide (sgnQ (crossQ a b c) 0 * sgnQ (crossQ a b d) 0 < 0) && decide (sgnQ (crossQ c d a) 0 * sgnQ (crossQ c d b) 0 < 0)
def anyP (a b c d : Pt) : Bool := onP c d a || onP c d b || onP a b c || onP a b d
def oneP (a b c d : Pt) : Bool := (decide (a = c) && eok a b d) || (decide (a = d) && eok a b c) || (decide (b = c) && eok b a d) || (decide (b = d) && eok b a c)
def meetP (a b c d : Pt) : Int := if oneP a b c d then 1 else if anyP a b c d || crossing a b c d then 2 else 0
theorem on_l (a b : Pt) : onP a b a = true := by
  have h1 : crossQ a b a = 0 := by unfold crossQ; grind
  have h2 : dotQ a a b = 0 := by unfold dotQ; grind
  unfold onP
  rw [decide_eq_true h1, decide_eq_true (by rw [h2]; exact Rat.le_refl)]; rfl
theorem on_sym (a b p : Pt) : onP a b p = onP b a p := by
  have h1 : crossQ a b p = 0 ↔ crossQ b a p = 0 := by unfold crossQ; constructor <;> intro h <;> grind
  have h2 : dotQ p a b = dotQ p b a := by unfold dotQ; grind
  unfold onP
  rw [decide_eq_decide.2 h1, h2]
theorem on_r (a b : Pt) : onP a b b = true := by rw [on_sym]; exact on_l b a
theorem on_iff {a b p : Pt} : onP a b p = true ↔ crossQ a b p = 0 ∧ dotQ p a b ≤ 0 := by
  unfold onP; rw [Bool.and_eq_true, decide_eq_true_eq, decide_eq_true_eq]
theorem eok_sym (e u v : Pt) : eok e u v = eok e v u := by unfold eok; rw [Bool.and_comm]
def addL (on : Bool) (p : Pt) (l : List Pt) : List Pt := if (on && l.all fun q => decide (q ≠ p)) = true then l ++ [p] else l
def comL (a b c d : Pt) : List Pt := addL (onP a b d) d (addL (onP a b c) c (addL (onP c d b) b (addL (onP c d a) a [])))
theorem addL_spec {on : Bool} {p : Pt} {l : List Pt} (hl : l.Nodup) : (addL on p l).Nodup ∧ ∀ x, x ∈ addL on p l ↔ x ∈ l ∨ (on = true ∧ x = p) := by
  unfold addL
  by_cases h : (on && l.all fun q => decide (q ≠ p)) = true
  · rw [if_pos h]
    rw [Bool.and_eq_true, List.all_eq_true] at h
    refine ⟨List.nodup_append.2 ⟨hl, by simp, fun x hx y hy => ?_⟩, fun x => ?_⟩
    · simp only [List.mem_singleton] at hy
      subst hy
      exact of_decide_eq_true (h.2 x hx)
    · simp only [List.mem_append, List.mem_singleton, h.1, true_and]
  · rw [if_neg h]
    refine ⟨hl, fun x => ⟨.inl, ?_⟩⟩
    rintro (h' | ⟨h1, rfl⟩)
    · exact h'
    · rw [h1, Bool.true_and, List.all_eq_true] at h
      by_cases hx : x ∈ l
      · exact hx
      · exact absurd (fun q hq => by simp only [ne_eq, decide_eq_true_eq]; intro e; subst e; exact hx hq) h
theorem comL_spec (a b c d : Pt) : (comL a b c d).Nodup ∧ ∀ x, x ∈ comL a b c d ↔ (onP c d a = true ∧ x = a) ∨ (onP c d b = true ∧ x = b) ∨ (onP a b c = true ∧ x = c) ∨ (onP a b d = true ∧ x = d) := by
  unfold comL
  have h0 := addL_spec (on := onP c d a) (p := a) (l := []) (by simp)
  have h1 := addL_spec (on := onP c d b) (p := b) h0.1
  have h2 := addL_spec (on := onP a b c) (p := c) h1.1
  have h3 := addL_spec (on := onP a b d) (p := d) h2.1
  refine ⟨h3.1, fun x => ?_⟩
  rw [h3.2, h2.2, h1.2, h0.2]
  simp only [List.not_mem_nil, false_or, or_assoc]
theorem one_iff {a b c d : Pt} : oneP a b c d = true ↔ (a = c ∧ eok a b d = true) ∨ (a = d ∧ eok a b c = true) ∨ (b = c ∧ eok b a d = true) ∨ (b = d ∧ eok b a c = true) := by
  unfold oneP
  simp only [Bool.or_eq_true, Bool.and_eq_true, decide_eq_true_eq, or_assoc]
theorem com_one {a b c d : Pt} : (∃ e, comL a b c d = [e] ∧ (e = a ∨ e = b) ∧ (e = c ∨ e = d)) ↔ oneP a b c d = true := by
  obtain ⟨hn, hm⟩ := comL_spec a b c d
  have eo : ∀ e u v, eok e u v = true ↔ (onP e v u = true → u = e) ∧ (onP e u v = true → v = e) := fun e u v => by
    unfold eok
    cases onP e v u <;> cases onP e u v <;> simp
  have single : ∀ e, e ∈ comL a b c d → (∀ x, x ∈ comL a b c d → x = e) → comL a b c d = [e] := fun e he hx => by
    match hl : comL a b c d with
    | [] => rw [hl] at he; cases he
    | [x] => rw [hl] at hx; rw [hx x (by simp)]
    | x :: y :: r =>
      rw [hl] at hx hn
      have e1 := hx x (by simp)
      have e2 := hx y (by simp)
      rw [e1, e2] at hn
      simp at hn
  rw [one_iff]
  constructor
  · rintro ⟨e, hl, h1, h2⟩
    have key : ∀ x, ((onP c d a = true ∧ x = a) ∨ (onP c d b = true ∧ x = b) ∨ (onP a b c = true ∧ x = c) ∨ (onP a b d = true ∧ x = d)) → x = e := fun x hx => by
      have := (hm x).2 hx
      rw [hl] at this
      simpa using this
    rcases h1 with rfl | rfl <;> rcases h2 with h2 | h2
    · exact .inl ⟨h2, (eo _ _ _).2 ⟨fun h => key b (.inr (.inl ⟨by rw [← h2]; exact h, rfl⟩)), fun h => key d (.inr (.inr (.inr ⟨h, rfl⟩)))⟩⟩
    · exact .inr (.inl ⟨h2, (eo _ _ _).2 ⟨fun h => key b (.inr (.inl ⟨by rw [on_sym, ← h2]; exact h, rfl⟩)), fun h => key c (.inr (.inr (.inl ⟨h, rfl⟩)))⟩⟩)
    · exact .inr (.inr (.inl ⟨h2, (eo _ _ _).2 ⟨fun h => key a (.inl ⟨by rw [← h2]; exact h, rfl⟩), fun h => key d (.inr (.inr (.inr ⟨by rw [on_sym]; exact h, rfl⟩)))⟩⟩))
    · exact .inr (.inr (.inr ⟨h2, (eo _ _ _).2 ⟨fun h => key a (.inl ⟨by rw [on_sym, ← h2]; exact h, rfl⟩), fun h => key c (.inr (.inr (.inl ⟨by rw [on_sym]; exact h, rfl⟩)))⟩⟩))
  · rintro (⟨rfl, h⟩ | ⟨rfl, h⟩ | ⟨rfl, h⟩ | ⟨rfl, h⟩)
    · obtain ⟨g1, g2⟩ := (eo _ _ _).1 h
      refine ⟨a, single a ((hm a).2 (.inl ⟨on_l _ _, rfl⟩)) fun x hx => ?_, .inl rfl, .inl rfl⟩
      rcases (hm x).1 hx with ⟨_, rfl⟩ | ⟨k, rfl⟩ | ⟨_, rfl⟩ | ⟨k, rfl⟩
      · rfl
      · exact g1 k
      · rfl
      · exact g2 k
    · obtain ⟨g1, g2⟩ := (eo _ _ _).1 h
      refine ⟨a, single a ((hm a).2 (.inl ⟨on_r _ _, rfl⟩)) fun x hx => ?_, .inl rfl, .inr rfl⟩
      rcases (hm x).1 hx with ⟨_, rfl⟩ | ⟨k, rfl⟩ | ⟨k, rfl⟩ | ⟨_, rfl⟩
      · rfl
      · exact g1 (by rw [on_sym]; exact k)
      · exact g2 k
      · rfl
    · obtain ⟨g1, g2⟩ := (eo _ _ _).1 h
      refine ⟨b, single b ((hm b).2 (.inr (.inl ⟨on_l _ _, rfl⟩))) fun x hx => ?_, .inr rfl, .inl rfl⟩
      rcases (hm x).1 hx with ⟨k, rfl⟩ | ⟨_, rfl⟩ | ⟨_, rfl⟩ | ⟨k, rfl⟩
      · exact g1 k
      · rfl
      · rfl
      · exact g2 (by rw [on_sym]; exact k)
    · obtain ⟨g1, g2⟩ := (eo _ _ _).1 h
      refine ⟨b, single b ((hm b).2 (.inr (.inl ⟨on_r _ _, rfl⟩))) fun x hx => ?_, .inr rfl, .inr rfl⟩
      rcases (hm x).1 hx with ⟨k, rfl⟩ | ⟨_, rfl⟩ | ⟨k, rfl⟩ | ⟨_, rfl⟩
      · exact g1 (by rw [on_sym]; exact k)
      · rfl
      · exact g2 (by rw [on_sym]; exact k)
      · rfl
theorem com_any {a b c d : Pt} : decide (0 < (comL a b c d).length) = anyP a b c d := by
  obtain ⟨_, hm⟩ := comL_spec a b c d
  have h : 0 < (comL a b c d).length ↔ anyP a b c d = true := by
    rw [List.length_pos_iff_exists_mem]
    unfold anyP
    simp only [Bool.or_eq_true, hm]
    constructor
    · rintro ⟨x, h | h | h | h⟩
      · exact .inl (.inl (.inl h.1))
      · exact .inl (.inl (.inr h.1))
      · exact .inl (.inr h.1)
      · exact .inr h.1
    · rintro (((h | h) | h) | h)
      · exact ⟨a, .inl ⟨h, rfl⟩⟩
      · exact ⟨b, .inr (.inl ⟨h, rfl⟩)⟩
      · exact ⟨c, .inr (.inr (.inl ⟨h, rfl⟩))⟩
      · exact ⟨d, .inr (.inr (.inr ⟨h, rfl⟩))⟩
  rw [Bool.eq_iff_iff, decide_eq_true_eq]
  exact h
theorem cross_swap (a b c : Pt) : crossQ b a c = -crossQ a b c := by unfold crossQ; grind
theorem any_of_one {a b c d : Pt} (h : oneP a b c d = true) : anyP a b c d = true := by
  unfold anyP
  rcases one_iff.1 h with ⟨e, _⟩ | ⟨e, _⟩ | ⟨e, _⟩ | ⟨e, _⟩
  · rw [e, on_l]; simp
  · rw [e, on_r]; simp
  · rw [e, on_l]; simp
  · rw [e, on_r]; simp
def alOKP (x1 x2 x : Rt) : Bool := decide (rval x1 ≠ rval x2) && decide (0 ≤ sgnQ (rval x1) (rval x) * sgnQ (rval x) (rval x2))
def algQ (x1 y1 x2 y2 x : Rat) : Rat := y1 + (x - x1) * (y2 - y1) / (x2 - x1)
def algP (x1 y1 x2 y2 x : Rt) : Rt := if alOKP x1 x2 x then ofQ (algQ (rval x1) (rval y1) (rval x2) (rval y2) (rval x)) else zeroR
def yrawP (a b : Pt) (x : Rt) : Bool := allP [a, b] && safeR x 60
def yokP (a b : Pt) (x : Rt) : Bool := yrawP a b x && alOKP a.X b.X x
def yatP (a b : Pt) (x : Rt) : Rt := if yrawP a b x then algP a.X a.Y b.X b.Y x else zeroR
def swapP (p : Pt) : Pt := ⟨p.Y, p.X⟩
structure SJ where
  on : Pt → Pt → Pt → Bool
  add : Bool → Pt → List Pt → List Pt
  com : Pt → Pt → Pt → Pt → List Pt
  cr : Pt → Pt → Pt → Pt → Bool
  meet : Pt → Pt → Pt → Pt → Int
  alOK : Rt → Rt → Rt → Bool
  alg : Rt → Rt → Rt → Rt → Rt → Rt
  yok : Pt → Pt → Rt → Bool
  yat : Pt → Pt → Rt → Rt
  xok : Pt → Pt → Rt → Bool
  xat : Pt → Pt → Rt → Rt
def stdJ : SJ where
  on := onP
  add := addL
  com := comL
  cr a b c d := anyP a b c d || crossing a b c d
  meet a b c d := if allP [a, b, c, d] then meetP a b c d else 0
  alOK := alOKP
  alg := algP
  yok := yokP
  yat := yatP
  xok a b y := yokP (swapP a) (swapP b) y
  xat a b y := yatP (swapP a) (swapP b) y
theorem sgnQ_eq (p q : Rat) : sgnQ p q = 0 ↔ p = q := by
  rcases sgnQ_cases p q with ⟨h, e, _⟩ | ⟨h, e, _⟩ | ⟨h, e, _⟩ <;> rw [e] <;> constructor <;> intro h' <;> first | exact h | rfl | (exfalso; grind)
theorem sgnQ_mul (p q r : Rat) : stdBin .mul .i64 (sgnQ p q) (sgnQ q r) = sgnQ p q * sgnQ q r := by
  rcases sgnQ_cases p q with ⟨_, e, _⟩ | ⟨_, e, _⟩ | ⟨_, e, _⟩ <;> rcases sgnQ_cases q r with ⟨_, e', _⟩ | ⟨_, e', _⟩ | ⟨_, e', _⟩ <;> rw [e, e'] <;> rfl
end Go.Eng
set_option linter.all false
set_option exponentiation.threshold 3000
namespace Go.Eng
set_option maxRecDepth 100000
def plOKP (a b c p : Pt) : Bool := allP [a, b, c] && (ptOK p && decide (sgnQ (crossQ a b c) 0 = 1))
def min3 (x y z : Int) : Int := if (if y < x then y else x) > z then z else (if y < x then y else x)
def placeP (a b c p : Pt) : Int := if plOKP a b c p then min3 (sgnQ (crossQ a b p) 0) (sgnQ (crossQ b c p) 0) (sgnQ (crossQ c a p) 0) else 0
def acuteP (a b c : Pt) : Bool := allP [a, b, c] && decide (0 < dotQ a b c)
def sharpP (a b c : Pt) : Rt := if allP [a, b, c] then (if 0 < dotQ a b c then ofQ (crossQ a b c / dotQ a b c) else ofQ 0) else zeroR
def wideP (a b c : Pt) : Bool := decide (dotQ a b c ≤ crossQ a b c)
def goodP (a b c : Pt) : Bool := allP [a, b, c] && (decide (sgnQ (crossQ a b c) 0 = 1) && (wideP a b c && (wideP b c a && wideP c a b)))
structure SE where
  plOK : Pt → Pt → Pt → Pt → Bool
  place : Pt → Pt → Pt → Pt → Int
  acute : Pt → Pt → Pt → Bool
  sharp : Pt → Pt → Pt → Rt
  good : Pt → Pt → Pt → Bool
  side : Pt → Pt → Pt → Pt → Pt → Rt
  wide : Pt → Pt → Pt → Bool
def stdE : SE where
  plOK := plOKP
  place := placeP
  acute := acuteP
  sharp := sharpP
  good := goodP
  side a b c x y := if allP [a, b, c] then ofQ (dotQ x y y) else zeroR
  wide := wideP
theorem cross_sum (a b c p : Pt) : crossQ a b p + crossQ b c p + crossQ c a p = crossQ a b c := by unfold crossQ; grind
theorem cross_rot (a b c : Pt) : crossQ b c a = crossQ a b c := by unfold crossQ; grind
theorem on_side {a b c p : Pt} (hD : 0 < crossQ a b c) (h0 : crossQ a b p = 0) : dotQ p a b ≤ 0 ↔ 0 ≤ crossQ b c p ∧ 0 ≤ crossQ c a p := by
  have hs := cross_sum a b c p
  have e1 : crossQ a b c * (px p - px a) = crossQ c a p * (px b - px a) := by
    have : crossQ a b c * (px p - px a) = crossQ c a p * (px b - px a) + crossQ a b p * (px c - px a) := by unfold crossQ; grind
    rw [this, h0]; grind
  have e2 : crossQ a b c * (py p - py a) = crossQ c a p * (py b - py a) := by
    have : crossQ a b c * (py p - py a) = crossQ c a p * (py b - py a) + crossQ a b p * (py c - py a) := by unfold crossQ; grind
    rw [this, h0]; grind
  have e3 : crossQ a b c * (px b - px p) = crossQ b c p * (px b - px a) := by
    have : crossQ a b c * (px b - px p) = crossQ a b c * (px b - px a) - crossQ a b c * (px p - px a) := by grind
    rw [this, e1]
    have : crossQ b c p = crossQ a b c - crossQ c a p := by grind
    rw [this]; grind
  have e4 : crossQ a b c * (py b - py p) = crossQ b c p * (py b - py a) := by
    have : crossQ a b c * (py b - py p) = crossQ a b c * (py b - py a) - crossQ a b c * (py p - py a) := by grind
    rw [this, e2]
    have : crossQ b c p = crossQ a b c - crossQ c a p := by grind
    rw [this]; grind
  have hne : px b - px a ≠ 0 ∨ py b - py a ≠ 0 := by
    by_cases h1 : px b - px a = 0
    · right
      intro h2
      unfold crossQ at hD
      rw [h1, h2] at hD
      grind
    · exact .inl h1
  have hU := sq2_pos hne
  have key : crossQ a b c * crossQ a b c * dotQ p a b = -(crossQ c a p * crossQ b c p * ((px b - px a) * (px b - px a) + (py b - py a) * (py b - py a))) := by
    have : crossQ a b c * crossQ a b c * dotQ p a b = -((crossQ a b c * (px p - px a)) * (crossQ a b c * (px b - px p)) + (crossQ a b c * (py p - py a)) * (crossQ a b c * (py b - py p))) := by
      unfold dotQ; grind
    rw [this, e1, e2, e3, e4]; grind
  have hDD := Rat.mul_pos hD hD
  generalize (px b - px a) * (px b - px a) + (py b - py a) * (py b - py a) = U at *
  generalize crossQ a b c * crossQ a b c = DD at *
  constructor
  · intro hd
    have h1 : 0 ≤ crossQ c a p * crossQ b c p * U := by
      have := Rat.mul_nonneg (a := DD) (b := -dotQ p a b) (by grind) (by grind)
      grind
    have h2 : 0 ≤ U * (crossQ c a p * crossQ b c p) := by grind
    have h3 := nonneg_of_mul hU h2
    have hab : crossQ b c p + crossQ c a p = crossQ a b c := by grind
    have k1 : 0 ≤ crossQ b c p := by
      by_cases h : crossQ b c p < 0
      · have : 0 < crossQ c a p := by grind
        have := mul_neg_of this h
        exfalso; grind
      · exact Rat.not_lt.1 h
    have k2 : 0 ≤ crossQ c a p := by
      by_cases h : crossQ c a p < 0
      · have : 0 < crossQ b c p := by grind
        have := mul_neg_of this h
        exfalso; grind
      · exact Rat.not_lt.1 h
    exact ⟨k1, k2⟩
  · rintro ⟨h1, h2⟩
    have h3 := Rat.mul_nonneg h2 h1
    have h4 := Rat.mul_nonneg h3 (by grind : 0 ≤ U)
    by_cases h : dotQ p a b ≤ 0
    · exact h
    · have := Rat.mul_pos hDD (Rat.not_le.1 h)
      exfalso; grind
theorem on_turns {a b c p : Pt} (hD : sgnQ (crossQ a b c) 0 = 1) : onP a b p = (decide (sgnQ (crossQ a b p) 0 = 0) && (decide (0 ≤ sgnQ (crossQ b c p) 0) && decide (0 ≤ sgnQ (crossQ c a p) 0))) := by
  have hD' : 0 < crossQ a b c := by
    rcases sgnQ_cases (crossQ a b c) 0 with ⟨h, e, _⟩ | ⟨h, e, _⟩ | ⟨h, e, _⟩
    · rw [e] at hD; cases hD
    · rw [e] at hD; cases hD
    · exact h
  have hn : ∀ q : Rat, decide (0 ≤ sgnQ q 0) = decide (0 ≤ q) := fun q => by
    rw [decide_eq_decide]
    rcases sgnQ_cases q 0 with ⟨h, e, _⟩ | ⟨h, e, _⟩ | ⟨h, e, _⟩ <;> rw [e]
    · exact ⟨fun h' => absurd h' (by decide), fun h' => by exfalso; grind⟩
    · exact ⟨fun _ => by grind, fun _ => by decide⟩
    · exact ⟨fun _ => by grind, fun _ => by decide⟩
  rw [hn, hn]
  unfold onP
  by_cases h0 : crossQ a b p = 0
  · rw [decide_eq_true (sgnQ_zero.2 h0), decide_eq_true h0, Bool.true_and, Bool.true_and, ← Bool.decide_and, decide_eq_decide]
    exact on_side hD' h0
  · rw [decide_eq_false (fun h => h0 (sgnQ_zero.1 h)), decide_eq_false h0]; rfl
theorem sgn3 (q : Rat) : sgnQ q 0 = -1 ∨ sgnQ q 0 = 0 ∨ sgnQ q 0 = 1 := by
  rcases sgnQ_cases q 0 with ⟨h, e, _⟩ | ⟨h, e, _⟩ | ⟨h, e, _⟩ <;> rw [e] <;> simp
end Go.Eng
set_option linter.all false
set_option exponentiation.threshold 3000
namespace Go.Eng
structure EqA (A : Alg) : Prop where
  b : ∀ x : Bool, A.beq x x = true
  i : ∀ n : Int, A.cmp .eql n n = true
  r : ∀ r : Rt, A.eqR r r = true
  p : ∀ r : Pt, A.eqP r r = true
  t : ∀ b, A.ite true b false = b
  f : ∀ b, A.ite false b false = false
  n0 : A.not false = true
  n1 : A.not true = false
  ot : ∀ b, A.ite true true b = true
  of : ∀ b, A.ite false true b = b
  an : ∀ b, A.and true b = b
theorem eq_a (A : Alg) (hA : A = stdA) : EqA A := by
  subst hA
  exact ⟨fun x => by show (x == x) = true; cases x <;> rfl, fun n => by show (n == n) = true; simp, fun r => eqR_of rfl, fun r => eqP_of rfl, fun b => rfl, fun b => rfl, rfl, rfl, fun b => rfl, fun b => rfl, fun b => rfl⟩
end Go.Eng

