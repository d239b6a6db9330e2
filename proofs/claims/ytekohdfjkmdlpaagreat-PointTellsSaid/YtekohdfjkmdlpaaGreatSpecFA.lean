
import Derived.Test.YtekohdfjkmdlpaaGreatSpecNA
set_option linter.all false
set_option exponentiation.threshold 3000
namespace Go.Eng
set_option maxRecDepth 100000
def rval (r : Rt) : Rat := Rat.divInt (wval r.N) (wval r.D)
def ofQ (q : Rat) : Rt := ⟨ofZ q.num, ofZ (q.den : Int)⟩
def isRt (r : Rt) : Bool := isWd r.N && (isWd r.D && (decide (0 < wval r.D) && decide (Int.gcd (wval r.N) (wval r.D) = 1)))
def zeroW : Wd := ⟨false, Dg.zero⟩
def zeroR : Rt := ⟨⟨false, Dg.zero⟩, ⟨false, Dg.zero⟩⟩
structure IsRt (r : Rt) : Prop where
  n : isWd r.N = true
  d : isWd r.D = true
  p : 0 < wval r.D
  g : Int.gcd (wval r.N) (wval r.D) = 1
theorem isRt_iff {r : Rt} : isRt r = true ↔ IsRt r := by
  unfold isRt
  simp only [Bool.and_eq_true, decide_eq_true_eq]
  exact ⟨fun ⟨a, b, c, d⟩ => ⟨a, b, c, d⟩, fun ⟨a, b, c, d⟩ => ⟨a, b, c, d⟩⟩
theorem rval_num {r : Rt} (h : IsRt r) : (rval r).num = wval r.N ∧ ((rval r).den : Int) = wval r.D := by
  unfold rval
  rw [Rat.num_divInt, Rat.den_divInt, Int.gcd_comm, h.g, if_neg (by have := h.p; omega)]
  have hs : (wval r.D).sign = 1 := Int.sign_eq_one_of_pos h.p
  have hp := h.p
  rw [hs]
  simp
  omega
theorem ofQ_rval {r : Rt} (h : IsRt r) : ofQ (rval r) = r := by
  obtain ⟨h1, h2⟩ := rval_num h
  unfold ofQ
  rw [h1, h2, ofZ_wval h.n, ofZ_wval h.d]
def FitQ (q : Rat) : Prop := fitZ q.num = true ∧ fitZ (q.den : Int) = true
theorem rval_ofQ {q : Rat} (h : FitQ q) : rval (ofQ q) = q := by
  unfold rval ofQ
  rw [wval_ofZ h.1, wval_ofZ h.2, Rat.divInt_ofNat, Rat.mkRat_self]
theorem isRt_ofQ {q : Rat} (h : FitQ q) : IsRt (ofQ q) := by
  have hd := q.den_pos
  refine ⟨isWd_ofZ _, isWd_ofZ _, ?_, ?_⟩
  · show 0 < wval (ofZ (q.den : Int))
    rw [wval_ofZ h.2]; omega
  · show Int.gcd (wval (ofZ q.num)) (wval (ofZ (q.den : Int))) = 1
    rw [wval_ofZ h.1, wval_ofZ h.2]
    exact q.reduced
def SmQ (k : Nat) (q : Rat) : Prop := Sm k q.num ∧ Sm k (q.den : Int)
theorem SmQ.fit {k : Nat} {q : Rat} (h : SmQ k q) (hk : k ≤ 1024) : FitQ q := ⟨h.1.fit hk, h.2.fit hk⟩
theorem SmQ.mono {j k : Nat} {q : Rat} (h : SmQ j q) (hk : j ≤ k) : SmQ k q := ⟨h.1.mono hk, h.2.mono hk⟩
theorem SmQ.div {k : Nat} {n d : Int} (hn : Sm k n) (hd : Sm k d) (h0 : d ≠ 0) : SmQ k (Rat.divInt n d) := by
  constructor
  · rw [Rat.num_divInt]
    refine hn.of_le ?_
    have h1 : (d.sign * n / (d.gcd n : Int)).natAbs ≤ (d.sign * n).natAbs := by
      rw [Int.natAbs_ediv_of_dvd ?_]
      · exact Nat.div_le_self _ _
      · exact Int.dvd_mul_of_dvd_right (Int.gcd_dvd_right ..)
    have h2 : (d.sign * n).natAbs ≤ n.natAbs := by
      rw [Int.natAbs_mul]
      have : d.sign.natAbs ≤ 1 := by rw [Int.natAbs_sign]; split <;> omega
      exact Nat.le_trans (Nat.mul_le_mul_right _ this) (by omega)
    exact Nat.le_trans h1 h2
  · rw [Rat.den_divInt, if_neg h0]
    refine hd.of_le ?_
    rw [Int.natAbs_natCast]
    exact Nat.div_le_self _ _
def sgnQ (a b : Rat) : Int := if a < b then -1 else if b < a then 1 else 0
def bitsW (w : Wd) : Int := ((lenOf w.d.n : Nat) : Int)
def safeR (r : Rt) (b : Int) : Bool := decide (bitsW r.N ≤ b) && (decide (bitsW r.D ≤ b) && isRt r)
structure SafeR (r : Rt) (k : Nat) : Prop where
  is : IsRt r
  n : Sm k (wval r.N)
  d : Sm k (wval r.D)
theorem safeR_of {r : Rt} {b : Int} (h : safeR r b = true) (hb : 0 ≤ b) : SafeR r b.toNat := by
  unfold safeR at h
  simp only [Bool.and_eq_true, decide_eq_true_eq] at h
  obtain ⟨h1, h2, h3⟩ := h
  exact ⟨isRt_iff.1 h3, Sm.bits (by unfold bitsW at h1; omega), Sm.bits (by unfold bitsW at h2; omega)⟩
theorem lenOf_sm {w : Wd} {k : Nat} (h : Sm k (wval w)) : bitsW w ≤ k := by
  unfold Sm at h
  rw [wval_abs] at h
  have := lenOf_le _ _ h
  unfold bitsW
  omega
theorem safeR_mk {r : Rt} {k : Nat} (h : SafeR r k) {b : Int} (hb : (k : Int) ≤ b) : safeR r b = true := by
  unfold safeR
  have h1 := lenOf_sm h.n
  have h2 := lenOf_sm h.d
  rw [decide_eq_true (by omega), decide_eq_true (by omega), isRt_iff.2 h.is]; rfl
theorem SafeR.q {r : Rt} {k : Nat} (h : SafeR r k) : SmQ k (rval r) := by
  obtain ⟨h1, h2⟩ := rval_num h.is
  exact ⟨by rw [h1]; exact h.n, by rw [h2]; exact h.d⟩
theorem SafeR.ofQ {q : Rat} {k : Nat} (h : SmQ k q) (hk : k ≤ 1024) : SafeR (ofQ q) k := by
  have hf := h.fit hk
  refine ⟨isRt_ofQ hf, ?_, ?_⟩
  · show Sm k (wval (ofZ q.num)); rw [wval_ofZ hf.1]; exact h.1
  · show Sm k (wval (ofZ (q.den : Int))); rw [wval_ofZ hf.2]; exact h.2
structure SF where
  li : Wd → Int
  liOK : Wd → Bool
  smN : Rt → Int
  smD : Rt → Int
  smOK : Rt → Bool
  com : Int → Int → Int
  made : Int → Int → Rt
  cmpI : Int → Int → Int
  b62 : Int → Bool
  isR : Rt → Bool
  safe : Rt → Int → Bool
  all : List Rt → Bool
  new : Wd → Wd → Rt
  newOK : Wd → Wd → Bool
  sign : Rt → Int
  two : Rt → Rt → Bool
  cmp : Rt → Rt → Int
  add : Rt → Rt → Rt
  sub : Rt → Rt → Rt
  mul : Rt → Rt → Rt
  div : Rt → Rt → Rt
  divOK : Rt → Rt → Bool
  neg : Rt → Rt
  sum : List Rt → Rt
  sumOK : List Rt → Bool
def liZ (w : Wd) : Int := if w.neg then -((w.d.dig 0 : Nat) : Int) else ((w.d.dig 0 : Nat) : Int)
def liB (w : Wd) : Bool := decide (w.d.n < 2 ^ 30)
def smB (r : Rt) : Bool := liB r.N && (liB r.D && isRt r)
def newB (n d : Wd) : Bool := decide (d.d.n ≠ 0) && (decide (bitsW n ≤ 1023) && (decide (bitsW d ≤ 1023) && (isWd n && isWd d)))
def twoB (a b : Rt) : Bool := safeR a 500 && safeR b 500
def sumR : Rt → List Rt → Rt × Bool
  | a, [] => (a, true)
  | a, w :: r => match twoB a w with
    | true => sumR (ofQ (rval a + rval w)) r
    | false => (zeroR, false)
def stdF : SF where
  li := liZ
  liOK := liB
  smN r := if smB r then wval r.N else 0
  smD r := if smB r then wval r.D else 0
  smOK := smB
  com a b := ((Nat.gcd a.natAbs b.natAbs : Nat) : Int)
  made n d := ofQ (Rat.divInt n d)
  cmpI a b := sgn a b
  b62 n := decide (-4611686018427387904 ≤ n) && decide (n ≤ 4611686018427387904)
  isR := isRt
  safe := safeR
  all l := l.all fun r => safeR r 500
  new n d := if newB n d then ofQ (Rat.divInt (wval n) (wval d)) else zeroR
  newOK := newB
  sign r := sgn (wval r.N) 0
  two := twoB
  cmp a b := if twoB a b then sgnQ (rval a) (rval b) else 0
  add a b := if twoB a b then ofQ (rval a + rval b) else zeroR
  sub a b := if twoB a b then ofQ (rval a - rval b) else zeroR
  mul a b := if twoB a b then ofQ (rval a * rval b) else zeroR
  div a b := if twoB a b && decide (rval b ≠ 0) then ofQ (rval a / rval b) else zeroR
  divOK a b := twoB a b && decide (rval b ≠ 0)
  neg r := ⟨stdW.neg r.N, r.D⟩
  sum l := (sumR ⟨zeroW, stdW.from64 1⟩ l).1
  sumOK l := (sumR ⟨zeroW, stdW.from64 1⟩ l).2
end Go.Eng
set_option linter.all false
set_option exponentiation.threshold 3000
namespace Go.Eng
set_option maxRecDepth 100000
theorem isWd_neg (w : Wd) : isWd (stdW.neg w) = true := by
  show isWd (tld (!wbelow w) w.d) = true
  rw [tld_ofZ]; exact isWd_ofZ _
theorem two_safe {a b : Rt} (h : twoB a b = true) : SafeR a 500 ∧ SafeR b 500 := by
  unfold twoB at h
  rw [Bool.and_eq_true] at h
  exact ⟨safeR_of h.1 (by decide), safeR_of h.2 (by decide)⟩
theorem sm_is {r : Rt} (h : smB r = true) : SafeR r 30 ∧ stdF.smN r = wval r.N ∧ stdF.smD r = wval r.D := by
  have e1 : stdF.smN r = wval r.N := by show (if smB r = true then _ else _) = _; rw [h]; rfl
  have e2 : stdF.smD r = wval r.D := by show (if smB r = true then _ else _) = _; rw [h]; rfl
  unfold smB at h
  rw [Bool.and_eq_true, Bool.and_eq_true] at h
  have h1 : r.N.d.n < 2 ^ 30 := of_decide_eq_true h.1
  have h2 : r.D.d.n < 2 ^ 30 := of_decide_eq_true h.2.1
  exact ⟨⟨isRt_iff.1 h.2.2, by unfold Sm; rw [wval_abs]; exact h1, by unfold Sm; rw [wval_abs]; exact h2⟩, e1, e2⟩
theorem sm_two {a b : Rt} (ha : smB a = true) (hb : smB b = true) : twoB a b = true := by
  unfold twoB
  rw [safeR_mk (sm_is ha).1 (by decide), safeR_mk (sm_is hb).1 (by decide)]; rfl
theorem cmp_q {a b : Rt} (ha : IsRt a) (hb : IsRt b) : sgn (wval a.N * wval b.D) (wval b.N * wval a.D) = sgnQ (rval a) (rval b) := by
  obtain ⟨a1, a2⟩ := rval_num ha
  obtain ⟨b1, b2⟩ := rval_num hb
  have e1 : rval a < rval b ↔ wval a.N * wval b.D < wval b.N * wval a.D := by rw [Rat.lt_iff, a1, a2, b1, b2]
  have e2 : rval b < rval a ↔ wval b.N * wval a.D < wval a.N * wval b.D := by rw [Rat.lt_iff, a1, a2, b1, b2]
  unfold sgn sgnQ
  simp only [e1, e2]
theorem rval_add {a b : Rt} (ha : IsRt a) (hb : IsRt b) : Rat.divInt (wval a.N * wval b.D + wval b.N * wval a.D) (wval a.D * wval b.D) = rval a + rval b := by
  unfold rval
  rw [Rat.divInt_add_divInt _ _ (by have := ha.p; omega) (by have := hb.p; omega)]
theorem rval_sub {a b : Rt} (ha : IsRt a) (hb : IsRt b) : Rat.divInt (wval a.N * wval b.D - wval b.N * wval a.D) (wval a.D * wval b.D) = rval a - rval b := by
  unfold rval
  rw [Rat.divInt_sub_divInt _ _ (by have := ha.p; omega) (by have := hb.p; omega)]
theorem rval_mul (a b : Rt) : Rat.divInt (wval a.N * wval b.N) (wval a.D * wval b.D) = rval a * rval b := by
  unfold rval
  rw [Rat.divInt_mul_divInt]
theorem rval_div (a b : Rt) : Rat.divInt (wval a.N * wval b.D) (wval a.D * wval b.N) = rval a / rval b := by
  unfold rval
  rw [Rat.div_def, Rat.inv_divInt, Rat.divInt_mul_divInt]
theorem rval_zero {r : Rt} (h : IsRt r) : rval r = 0 ↔ wval r.N = 0 := by
  rw [← Rat.num_eq_zero, (rval_num h).1]
theorem rval_sign {r : Rt} (h : IsRt r) : sgn (wval r.N) 0 = sgnQ (rval r) 0 := by
  have h1 := (rval_num h).1
  have e1 : rval r < 0 ↔ wval r.N < 0 := by rw [Rat.lt_iff, h1]; simp
  have e2 : 0 < rval r ↔ 0 < wval r.N := by rw [Rat.lt_iff, h1]; simp
  unfold sgn sgnQ
  simp only [e1, e2]
theorem new_q {n d : Wd} (h : newB n d = true) : stdF.new n d = ofQ (Rat.divInt (wval n) (wval d)) := by
  show (if newB n d = true then _ else _) = _
  rw [if_pos h]
theorem newB_mk {n d : Wd} (hn : Sm 1023 (wval n)) (hd : Sm 1023 (wval d)) (h0 : wval d ≠ 0) (in_ : isWd n = true) (id_ : isWd d = true) : newB n d = true := by
  unfold newB
  have := lenOf_sm hn
  have := lenOf_sm hd
  have h1 : d.d.n ≠ 0 := by have := wval_abs d; omega
  rw [decide_eq_true h1, decide_eq_true (show bitsW n ≤ 1023 by omega), decide_eq_true (show bitsW d ≤ 1023 by omega), in_, id_]; rfl
structure Prods (a b : Rt) : Prop where
  k1 : stdV.mulOK a.N b.D = true ∧ wval (stdV.mul a.N b.D) = wval a.N * wval b.D ∧ Sm 1000 (wval a.N * wval b.D)
  k2 : stdV.mulOK b.N a.D = true ∧ wval (stdV.mul b.N a.D) = wval b.N * wval a.D ∧ Sm 1000 (wval b.N * wval a.D)
  k3 : stdV.mulOK a.D b.D = true ∧ wval (stdV.mul a.D b.D) = wval a.D * wval b.D ∧ Sm 1000 (wval a.D * wval b.D)
  k4 : stdV.mulOK a.N b.N = true ∧ wval (stdV.mul a.N b.N) = wval a.N * wval b.N ∧ Sm 1000 (wval a.N * wval b.N)
  k5 : stdV.mulOK a.D b.N = true ∧ wval (stdV.mul a.D b.N) = wval a.D * wval b.N ∧ Sm 1000 (wval a.D * wval b.N)
theorem prods {a b : Rt} (ha : SafeR a 500) (hb : SafeR b 500) : Prods a b := by
  have key : ∀ x y : Wd, Sm 500 (wval x) → Sm 500 (wval y) → stdV.mulOK x y = true ∧ wval (stdV.mul x y) = wval x * wval y ∧ Sm 1000 (wval x * wval y) := fun x y hx hy => by
    have hs : Sm 1000 (wval x * wval y) := hx.mul hy
    obtain ⟨_, h2, h3⟩ := v_mul (x := x) (y := y) rfl rfl (hs.fit (by decide))
    exact ⟨h2, h3, hs⟩
  exact ⟨key _ _ ha.n hb.d, key _ _ hb.n ha.d, key _ _ ha.d hb.d, key _ _ ha.n hb.n, key _ _ ha.d hb.n⟩
theorem prod_ne {x y : Int} (hx : 0 < x) (hy : 0 < y) : x * y ≠ 0 := by
  have := Int.mul_pos hx hy
  omega
structure BigF (a b : Rt) : Prop where
  m1 : stdV.mulOK a.N b.D = true
  m2 : stdV.mulOK b.N a.D = true
  m3 : stdV.mulOK a.D b.D = true
  m4 : stdV.mulOK a.N b.N = true
  m5 : stdV.mulOK a.D b.N = true
  ad : stdV.addOK (stdV.mul a.N b.D) (stdV.mul b.N a.D) = true
  cmp : stdW.cmp (stdV.mul a.N b.D) (stdV.mul b.N a.D) = sgnQ (rval a) (rval b)
  add : stdF.new (stdV.add (stdV.mul a.N b.D) (stdV.mul b.N a.D)) (stdV.mul a.D b.D) = ofQ (rval a + rval b) ∧ stdF.newOK (stdV.add (stdV.mul a.N b.D) (stdV.mul b.N a.D)) (stdV.mul a.D b.D) = true
  mul : stdF.new (stdV.mul a.N b.N) (stdV.mul a.D b.D) = ofQ (rval a * rval b) ∧ stdF.newOK (stdV.mul a.N b.N) (stdV.mul a.D b.D) = true
  div : rval b ≠ 0 → stdF.new (stdV.mul a.N b.D) (stdV.mul a.D b.N) = ofQ (rval a / rval b) ∧ stdF.newOK (stdV.mul a.N b.D) (stdV.mul a.D b.N) = true
theorem big_f {a b : Rt} (h : twoB a b = true) : BigF a b := by
  obtain ⟨ha, hb⟩ := two_safe h
  obtain ⟨k1, k2, k3, k4, k5⟩ := prods ha hb
  have hs : Sm 1001 (wval a.N * wval b.D + wval b.N * wval a.D) := k1.2.2.add k2.2.2
  have e := v_add k1.2.1 k2.2.1 (hs.fit (by decide))
  refine ⟨k1.1, k2.1, k3.1, k4.1, k5.1, e.2.1, ?_, ?_, ?_, fun h0 => ?_⟩
  · show sgn (wval (stdV.mul a.N b.D)) (wval (stdV.mul b.N a.D)) = _
    rw [k1.2.1, k2.2.1]
    exact cmp_q ha.is hb.is
  · have hn : newB (stdV.add (stdV.mul a.N b.D) (stdV.mul b.N a.D)) (stdV.mul a.D b.D) = true :=
      newB_mk (by rw [e.2.2]; exact hs.mono (by decide)) (by rw [k3.2.1]; exact k3.2.2.mono (by decide)) (by rw [k3.2.1]; exact prod_ne ha.is.p hb.is.p) (isWd_add _ _) (isWd_mul _ _)
    exact ⟨by rw [new_q hn, e.2.2, k3.2.1, rval_add ha.is hb.is], hn⟩
  · have hn : newB (stdV.mul a.N b.N) (stdV.mul a.D b.D) = true :=
      newB_mk (by rw [k4.2.1]; exact k4.2.2.mono (by decide)) (by rw [k3.2.1]; exact k3.2.2.mono (by decide)) (by rw [k3.2.1]; exact prod_ne ha.is.p hb.is.p) (isWd_mul _ _) (isWd_mul _ _)
    exact ⟨by rw [new_q hn, k4.2.1, k3.2.1, rval_mul], hn⟩
  · have hz : wval b.N ≠ 0 := fun h => h0 ((rval_zero hb.is).2 h)
    have hn : newB (stdV.mul a.N b.D) (stdV.mul a.D b.N) = true :=
      newB_mk (by rw [k1.2.1]; exact k1.2.2.mono (by decide)) (by rw [k5.2.1]; exact k5.2.2.mono (by decide)) (by rw [k5.2.1]; exact Int.mul_ne_zero (by have := ha.is.p; omega) hz) (isWd_mul _ _) (isWd_mul _ _)
    exact ⟨by rw [new_q hn, k1.2.1, k5.2.1, rval_div], hn⟩
structure SmallF (A : Alg) (a b : Rt) : Prop where
  c : sgn (A.bin .mul .i64 (stdF.smN a) (stdF.smD b)) (A.bin .mul .i64 (stdF.smN b) (stdF.smD a)) = sgnQ (rval a) (rval b)
  o1 : stdF.b62 (A.bin .add .i64 (A.bin .mul .i64 (stdF.smN a) (stdF.smD b)) (A.bin .mul .i64 (stdF.smN b) (stdF.smD a))) = true
  o2 : stdF.b62 (A.bin .mul .i64 (stdF.smD a) (stdF.smD b)) = true
  o3 : A.cmp .neq (A.bin .mul .i64 (stdF.smD a) (stdF.smD b)) 0 = true
  add : stdF.made (A.bin .add .i64 (A.bin .mul .i64 (stdF.smN a) (stdF.smD b)) (A.bin .mul .i64 (stdF.smN b) (stdF.smD a))) (A.bin .mul .i64 (stdF.smD a) (stdF.smD b)) = ofQ (rval a + rval b)
  o4 : stdF.b62 (A.bin .sub .i64 (A.bin .mul .i64 (stdF.smN a) (stdF.smD b)) (A.bin .mul .i64 (stdF.smN b) (stdF.smD a))) = true
  sub : stdF.made (A.bin .sub .i64 (A.bin .mul .i64 (stdF.smN a) (stdF.smD b)) (A.bin .mul .i64 (stdF.smN b) (stdF.smD a))) (A.bin .mul .i64 (stdF.smD a) (stdF.smD b)) = ofQ (rval a - rval b)
  o5 : stdF.b62 (A.bin .mul .i64 (stdF.smN a) (stdF.smN b)) = true
  mul : stdF.made (A.bin .mul .i64 (stdF.smN a) (stdF.smN b)) (A.bin .mul .i64 (stdF.smD a) (stdF.smD b)) = ofQ (rval a * rval b)
  o6 : stdF.b62 (A.bin .mul .i64 (stdF.smN a) (stdF.smD b)) = true
  o7 : stdF.b62 (A.bin .mul .i64 (stdF.smD a) (stdF.smN b)) = true
  o8 : A.cmp .neq (stdF.smN b) 0 = true → A.cmp .neq (A.bin .mul .i64 (stdF.smD a) (stdF.smN b)) 0 = true
  div : stdF.made (A.bin .mul .i64 (stdF.smN a) (stdF.smD b)) (A.bin .mul .i64 (stdF.smD a) (stdF.smN b)) = ofQ (rval a / rval b)
  z : A.cmp .neq (stdF.smN b) 0 = decide (rval b ≠ 0)
theorem small_f {a b : Rt} (ha : smB a = true) (hb : smB b = true) (A : Alg) (hA : A = stdA) : SmallF A a b := by
  subst hA
  obtain ⟨sa, an, ad⟩ := sm_is ha
  obtain ⟨sb, bn, bd⟩ := sm_is hb
  have b62 : ∀ z : Int, Sm 61 z → stdF.b62 z = true := fun z hz => by
    have hz : z.natAbs < 2 ^ 61 := hz
    show (decide (-4611686018427387904 ≤ z) && decide (z ≤ 4611686018427387904)) = true
    rw [Bool.and_eq_true, decide_eq_true_eq, decide_eq_true_eq]
    omega
  have mu : ∀ x y : Int, Sm 30 x → Sm 30 y → stdA.bin .mul .i64 x y = x * y ∧ Sm 60 (x * y) := fun x y hx hy => by
    have h : Sm 60 (x * y) := hx.mul hy
    have h' : (x * y).natAbs < 2 ^ 60 := h
    refine ⟨?_, h⟩
    show IntKind.i64.wrap (x * y) = _
    rw [IntKind.wrap_i64]; omega
  have adl : ∀ x y : Int, Sm 60 x → Sm 60 y → stdA.bin .add .i64 x y = x + y ∧ Sm 61 (x + y) := fun x y hx hy => by
    have h : Sm 61 (x + y) := hx.add hy
    have h' : (x + y).natAbs < 2 ^ 61 := h
    refine ⟨?_, h⟩
    show IntKind.i64.wrap (x + y) = _
    rw [IntKind.wrap_i64]; omega
  have sul : ∀ x y : Int, Sm 60 x → Sm 60 y → stdA.bin .sub .i64 x y = x - y ∧ Sm 61 (x - y) := fun x y hx hy => by
    have h : Sm 61 (x - y) := hx.sub hy
    have h' : (x - y).natAbs < 2 ^ 61 := h
    refine ⟨?_, h⟩
    show IntKind.i64.wrap (x - y) = _
    rw [IntKind.wrap_i64]; omega
  obtain ⟨m1, s1⟩ := mu _ _ sa.n sb.d
  obtain ⟨m2, s2⟩ := mu _ _ sb.n sa.d
  obtain ⟨m3, s3⟩ := mu _ _ sa.d sb.d
  obtain ⟨m4, s4⟩ := mu _ _ sa.n sb.n
  obtain ⟨m5, s5⟩ := mu _ _ sa.d sb.n
  obtain ⟨m6, s6⟩ := adl _ _ s1 s2
  obtain ⟨m7, s7⟩ := sul _ _ s1 s2
  have hz : rval b = 0 ↔ wval b.N = 0 := rval_zero sb.is
  have nez : ∀ x : Int, x ≠ 0 → stdA.cmp .neq x 0 = true := fun x hx => by show (x != 0) = true; rw [bne_iff_ne]; exact hx
  refine ⟨?_, ?_, ?_, ?_, ?_, ?_, ?_, ?_, ?_, ?_, ?_, fun h => ?_, ?_, ?_⟩
  all_goals (try rw [an]); (try rw [ad]); (try rw [bn]); (try rw [bd])
  · rw [m1, m2]; exact cmp_q sa.is sb.is
  · rw [m1, m2, m6]; exact b62 _ s6
  · rw [m3]; exact b62 _ (s3.mono (by decide))
  · rw [m3]; exact nez _ (prod_ne sa.is.p sb.is.p)
  · rw [m1, m2, m3, m6]; show ofQ (Rat.divInt _ _) = _; rw [rval_add sa.is sb.is]
  · rw [m1, m2, m7]; exact b62 _ s7
  · rw [m1, m2, m3, m7]; show ofQ (Rat.divInt _ _) = _; rw [rval_sub sa.is sb.is]
  · rw [m4]; exact b62 _ (s4.mono (by decide))
  · rw [m4, m3]; show ofQ (Rat.divInt _ _) = _; rw [rval_mul]
  · rw [m1]; exact b62 _ (s1.mono (by decide))
  · rw [m5]; exact b62 _ (s5.mono (by decide))
  · rw [m5]
    refine nez _ (Int.mul_ne_zero (by have := sa.is.p; omega) ?_)
    have h : (stdF.smN b != 0) = true := h
    rw [bn, bne_iff_ne] at h
    exact h
  · rw [m1, m5]; show ofQ (Rat.divInt _ _) = _; rw [rval_div]
  · show (wval b.N != 0) = decide (rval b ≠ 0)
    by_cases h : wval b.N = 0
    · rw [decide_eq_false (by simp [hz.2 h]), h]; rfl
    · rw [decide_eq_true (show rval b ≠ 0 from fun h' => h (hz.1 h')), bne_iff_ne]; exact h
theorem neg_f {r : Rt} {k : Nat} (h : SafeR r k) : SafeR (stdF.neg r) k ∧ rval (stdF.neg r) = -rval r := by
  have hw := wval_neg r.N
  constructor
  · refine ⟨⟨isWd_neg _, h.is.d, h.is.p, ?_⟩, ?_, h.d⟩
    · show Int.gcd (wval (stdW.neg r.N)) (wval r.D) = 1
      rw [hw, Int.neg_gcd]; exact h.is.g
    · show Sm k (wval (stdW.neg r.N))
      rw [hw]; exact h.n.neg
  · show Rat.divInt (wval (stdW.neg r.N)) (wval r.D) = _
    rw [hw]
    unfold rval
    rw [Rat.neg_divInt]
end Go.Eng
set_option linter.all false
set_option exponentiation.threshold 3000
namespace Go.Eng
set_option maxRecDepth 100000
structure Cal (r : Rt) (q : Rat) (k : Nat) : Prop where
  s : SafeR r k
  v : rval r = q
theorem SafeR.mono {r : Rt} {j k : Nat} (h : SafeR r j) (hk : j ≤ k) : SafeR r k := ⟨h.is, h.n.mono hk, h.d.mono hk⟩
theorem Cal.mono {r : Rt} {q : Rat} {j k : Nat} (h : Cal r q j) (hk : j ≤ k) : Cal r q k := ⟨h.s.mono hk, h.v⟩
theorem Cal.of {r : Rt} {k : Nat} (h : SafeR r k) : Cal r (rval r) k := ⟨h, rfl⟩
theorem Cal.eq {r : Rt} {q : Rat} {k : Nat} (h : Cal r q k) : r = ofQ q := by rw [← h.v, ofQ_rval h.s.is]
theorem Cal.q {q : Rat} {k : Nat} (h : SmQ k q) (hk : k ≤ 1024) : Cal (ofQ q) q k := ⟨SafeR.ofQ h hk, rval_ofQ (h.fit hk)⟩
theorem Cal.inj {r s : Rt} {p q : Rat} {j k : Nat} (hr : Cal r p j) (hs : Cal s q k) (h : p = q) : r = s := by rw [hr.eq, hs.eq, h]
theorem Cal.sm {r : Rt} {q : Rat} {k : Nat} (h : Cal r q k) : SmQ k q := by rw [← h.v]; exact h.s.q
theorem two_mk {a b : Rt} {j k : Nat} (ha : SafeR a j) (hb : SafeR b k) (hj : j ≤ 500) (hk : k ≤ 500) : twoB a b = true := by
  unfold twoB
  rw [safeR_mk ha (by omega), safeR_mk hb (by omega)]; rfl
theorem Cal.add {a b : Rt} {p q : Rat} {k : Nat} (ha : Cal a p k) (hb : Cal b q k) (hk : k ≤ 500) : stdF.two a b = true ∧ Cal (stdF.add a b) (p + q) (2 * k + 1) := by
  have h2 : twoB a b = true := two_mk ha.s hb.s hk hk
  refine ⟨h2, ?_⟩
  have e : stdF.add a b = ofQ (p + q) := by show (if twoB a b = true then _ else _) = _; rw [h2, ha.v, hb.v]; rfl
  rw [e]
  refine Cal.q ?_ (by omega)
  rw [← ha.v, ← hb.v, ← rval_add ha.s.is hb.s.is]
  have s1 : Sm (2 * k) (wval a.N * wval b.D) := by rw [Nat.two_mul]; exact ha.s.n.mul hb.s.d
  have s2 : Sm (2 * k) (wval b.N * wval a.D) := by rw [Nat.two_mul]; exact hb.s.n.mul ha.s.d
  have s3 : Sm (2 * k) (wval a.D * wval b.D) := by rw [Nat.two_mul]; exact ha.s.d.mul hb.s.d
  exact SmQ.div (s1.add s2) (s3.mono (by omega)) (prod_ne ha.s.is.p hb.s.is.p)
theorem Cal.sub {a b : Rt} {p q : Rat} {k : Nat} (ha : Cal a p k) (hb : Cal b q k) (hk : k ≤ 500) : stdF.two a b = true ∧ Cal (stdF.sub a b) (p - q) (2 * k + 1) := by
  have h2 : twoB a b = true := two_mk ha.s hb.s hk hk
  refine ⟨h2, ?_⟩
  have e : stdF.sub a b = ofQ (p - q) := by show (if twoB a b = true then _ else _) = _; rw [h2, ha.v, hb.v]; rfl
  rw [e]
  refine Cal.q ?_ (by omega)
  rw [← ha.v, ← hb.v, ← rval_sub ha.s.is hb.s.is]
  have s1 : Sm (2 * k) (wval a.N * wval b.D) := by rw [Nat.two_mul]; exact ha.s.n.mul hb.s.d
  have s2 : Sm (2 * k) (wval b.N * wval a.D) := by rw [Nat.two_mul]; exact hb.s.n.mul ha.s.d
  have s3 : Sm (2 * k) (wval a.D * wval b.D) := by rw [Nat.two_mul]; exact ha.s.d.mul hb.s.d
  exact SmQ.div (s1.sub s2) (s3.mono (by omega)) (prod_ne ha.s.is.p hb.s.is.p)
theorem Cal.mul {a b : Rt} {p q : Rat} {k : Nat} (ha : Cal a p k) (hb : Cal b q k) (hk : k ≤ 500) : stdF.two a b = true ∧ Cal (stdF.mul a b) (p * q) (2 * k) := by
  have h2 : twoB a b = true := two_mk ha.s hb.s hk hk
  refine ⟨h2, ?_⟩
  have e : stdF.mul a b = ofQ (p * q) := by show (if twoB a b = true then _ else _) = _; rw [h2, ha.v, hb.v]; rfl
  rw [e]
  refine Cal.q ?_ (by omega)
  rw [← ha.v, ← hb.v, ← rval_mul, Nat.two_mul]
  exact SmQ.div (ha.s.n.mul hb.s.n) (ha.s.d.mul hb.s.d) (prod_ne ha.s.is.p hb.s.is.p)
theorem Cal.div {a b : Rt} {p q : Rat} {k : Nat} (ha : Cal a p k) (hb : Cal b q k) (hk : k ≤ 500) (h0 : q ≠ 0) : stdF.divOK a b = true ∧ Cal (stdF.div a b) (p / q) (2 * k) := by
  have h2 : twoB a b = true := two_mk ha.s hb.s hk hk
  have h3 : (twoB a b && decide (rval b ≠ 0)) = true := by rw [h2, hb.v, decide_eq_true h0]; rfl
  refine ⟨h3, ?_⟩
  have e : stdF.div a b = ofQ (p / q) := by show (if (twoB a b && decide (rval b ≠ 0)) = true then _ else _) = _; rw [h3, ha.v, hb.v]; rfl
  rw [e]
  refine Cal.q ?_ (by omega)
  have hz : wval b.N ≠ 0 := fun h => h0 (by rw [← hb.v]; exact (rval_zero hb.s.is).2 h)
  rw [← ha.v, ← hb.v, ← rval_div, Nat.two_mul]
  exact SmQ.div (ha.s.n.mul hb.s.d) (ha.s.d.mul hb.s.n) (Int.mul_ne_zero (by have := ha.s.is.p; omega) hz)
theorem Cal.cmp {a b : Rt} {p q : Rat} {k : Nat} (ha : Cal a p k) (hb : Cal b q k) (hk : k ≤ 500) : stdF.two a b = true ∧ stdF.cmp a b = sgnQ p q := by
  have h2 : twoB a b = true := two_mk ha.s hb.s hk hk
  refine ⟨h2, ?_⟩
  show (if twoB a b = true then _ else _) = _
  rw [h2, ha.v, hb.v]; rfl
theorem Cal.sign {a : Rt} {p : Rat} {k : Nat} (ha : Cal a p k) : stdF.sign a = sgnQ p 0 := by
  show sgn _ _ = _
  rw [rval_sign ha.s.is, ha.v]
theorem smQ_int {k : Nat} {z : Int} (hz : Sm k z) (hk : 1 ≤ k) : SmQ k (z : Rat) := by
  refine ⟨?_, ?_⟩
  · rw [Rat.num_intCast]; exact hz
  · rw [Rat.den_intCast]
    show (1 : Int).natAbs < 2 ^ k
    have := Nat.pow_lt_pow_right (a := 2) (by decide) (show 0 < k by omega)
    omega
theorem Cal.int {k : Nat} {z : Int} (hz : Sm k z) (hk : 1 ≤ k) (h : k ≤ 1024) : Cal (ofQ (z : Rat)) (z : Rat) k := Cal.q (smQ_int hz hk) h
theorem new_int {x : Int} (hx : Sm 64 x) : stdF.new (stdW.from64 x) (stdW.from64 1) = ofQ (x : Rat) ∧ stdF.newOK (stdW.from64 x) (stdW.from64 1) = true ∧ (⟨stdW.from64 x, stdW.from64 1⟩ : Rt) = ofQ (x : Rat) := by
  have e1 : wval (stdW.from64 x) = x := wval_ofZ (hx.fit (by decide))
  have e2 : wval (stdW.from64 1) = 1 := wval_from (by decide)
  have hn : newB (stdW.from64 x) (stdW.from64 1) = true := newB_mk (by rw [e1]; exact hx.mono (by decide)) (by rw [e2]; show (1 : Int).natAbs < 2 ^ 1023; decide) (by rw [e2]; decide) (isWd_ofZ _) (isWd_ofZ _)
  refine ⟨?_, hn, ?_⟩
  · rw [new_q hn, e1, e2]
    have h := Rat.num_divInt_den (x : Rat)
    rw [Rat.num_intCast, Rat.den_intCast] at h
    exact congrArg ofQ h
  · unfold ofQ
    rw [Rat.num_intCast, Rat.den_intCast]
    rfl
def ptOK (p : Pt) : Bool := safeR p.X 60 && safeR p.Y 60
def allP (l : List Pt) : Bool := l.all ptOK
structure IsPt (p : Pt) : Prop where
  x : SafeR p.X 60
  y : SafeR p.Y 60
theorem isPt_of {p : Pt} (h : ptOK p = true) : IsPt p := by
  unfold ptOK at h
  rw [Bool.and_eq_true] at h
  exact ⟨safeR_of h.1 (by decide), safeR_of h.2 (by decide)⟩
theorem isPt_iff {p : Pt} : ptOK p = true ↔ IsPt p := ⟨isPt_of, fun h => by unfold ptOK; rw [safeR_mk h.x (by decide), safeR_mk h.y (by decide)]; rfl⟩
def px (p : Pt) : Rat := rval p.X
def py (p : Pt) : Rat := rval p.Y
def crossQ (a b c : Pt) : Rat := (px b - px a) * (py c - py a) - (py b - py a) * (px c - px a)
def dotQ (a b c : Pt) : Rat := (px b - px a) * (px c - px a) + (py b - py a) * (py c - py a)
structure SH where
  at_ : Int → Int → Pt
  all : List Pt → Bool
  cmp : Pt → Pt → Int
  cross : Pt → Pt → Pt → Rt
  dot : Pt → Pt → Pt → Rt
  turn : Pt → Pt → Pt → Int
  mid : List Pt → Pt
  midOK : List Pt → Bool
  ends : Bool → Rt → Rt
  xs : List Pt → List Rt
  ys : List Pt → List Rt
  whole : Int → Rt
  half : Int → Rt
def zeroP : Pt := ⟨zeroR, zeroR⟩
def pcmp (a b : Pt) : Int := if sgnQ (px a) (px b) ≠ 0 then sgnQ (px a) (px b) else sgnQ (py a) (py b)
def sumQ : List Rat → Rat
  | [] => 0
  | q :: r => q + sumQ r
def midB (l : List Pt) : Bool := decide (l.length ≠ 0) && (decide (l.length ≤ 4) && allP l)
def midP (l : List Pt) : Pt := ⟨ofQ (sumQ (l.map px) / (l.length : Int)), ofQ (sumQ (l.map py) / (l.length : Int))⟩
def stdH : SH where
  at_ x y := ⟨ofQ (x : Rat), ofQ (y : Rat)⟩
  all := allP
  cmp a b := if allP [a, b] then pcmp a b else 0
  cross a b c := if allP [a, b, c] then ofQ (crossQ a b c) else zeroR
  dot a b c := if allP [a, b, c] then ofQ (dotQ a b c) else zeroR
  turn a b c := if allP [a, b, c] then sgnQ (crossQ a b c) 0 else 0
  mid l := if midB l then midP l else zeroP
  midOK := midB
  ends c r := if c then zeroR else r
  xs l := l.map Pt.X
  ys l := l.map Pt.Y
  whole z := ofQ (z : Rat)
  half z := ofQ ((z : Rat) / 2)
end Go.Eng
set_option linter.all false
set_option exponentiation.threshold 3000
namespace Go.Eng
set_option maxRecDepth 100000
theorem eqR_of {a b : Rt} (h : a = b) : stdA.eqR a b = true := by subst h; exact decide_eq_true rfl
theorem eqP_of {a b : Pt} (h : a = b) : stdA.eqP a b = true := by subst h; exact decide_eq_true rfl
structure AtP (p : Pt) (x y : Int) : Prop where
  is : ptOK p = true
  x : px p = x
  y : py p = y
theorem atP {x y : Int} (hx : Sm 60 x) (hy : Sm 60 y) : AtP (stdH.at_ x y) x y := by
  have cx := Cal.int hx (by decide) (by decide)
  have cy := Cal.int hy (by decide) (by decide)
  exact ⟨isPt_iff.2 ⟨cx.s, cy.s⟩, cx.v, cy.v⟩
theorem IsPt.eq {p : Pt} (h : IsPt p) : p = ⟨ofQ (px p), ofQ (py p)⟩ := by
  have e1 : ofQ (px p) = p.X := ofQ_rval h.x.is
  have e2 : ofQ (py p) = p.Y := ofQ_rval h.y.is
  rw [e1, e2]
theorem IsPt.inj {p q : Pt} (hp : IsPt p) (hq : IsPt q) (hx : px p = px q) (hy : py p = py q) : p = q := by rw [hp.eq, hq.eq, hx, hy]
theorem all3 {a b c : Pt} (ha : ptOK a = true) (hb : ptOK b = true) (hc : ptOK c = true) : allP [a, b, c] = true := by
  show (ptOK a && (ptOK b && (ptOK c && true))) = true
  rw [ha, hb, hc]; rfl
theorem all2 {a b : Pt} (ha : ptOK a = true) (hb : ptOK b = true) : allP [a, b] = true := by
  show (ptOK a && (ptOK b && true)) = true
  rw [ha, hb]; rfl
theorem cross_ok {a b c : Pt} (h : allP [a, b, c] = true) : stdH.cross a b c = ofQ (crossQ a b c) := if_pos h
theorem dot_ok {a b c : Pt} (h : allP [a, b, c] = true) : stdH.dot a b c = ofQ (dotQ a b c) := if_pos h
theorem turn_ok {a b c : Pt} (h : allP [a, b, c] = true) : stdH.turn a b c = sgnQ (crossQ a b c) 0 := if_pos h
theorem cmp_ok {a b : Pt} (h : allP [a, b] = true) : stdH.cmp a b = pcmp a b := if_pos h
theorem mid_ok {l : List Pt} (h : midB l = true) : stdH.mid l = midP l := if_pos h
theorem midB_of {l : List Pt} (h0 : l.length ≠ 0) (h4 : l.length ≤ 4) (h : allP l = true) : midB l = true := by
  unfold midB
  rw [decide_eq_true h0, decide_eq_true h4, h]; rfl
theorem cross_int {a b c : Pt} {ax ay bx by_ cx cy : Int} (ha : AtP a ax ay) (hb : AtP b bx by_) (hc : AtP c cx cy) : crossQ a b c = (((bx - ax) * (cy - ay) - (by_ - ay) * (cx - ax) : Int) : Rat) := by
  unfold crossQ
  rw [ha.x, ha.y, hb.x, hb.y, hc.x, hc.y]
  simp only [Rat.intCast_sub, Rat.intCast_mul]
theorem dot_int {a b c : Pt} {ax ay bx by_ cx cy : Int} (ha : AtP a ax ay) (hb : AtP b bx by_) (hc : AtP c cx cy) : dotQ a b c = (((bx - ax) * (cx - ax) + (by_ - ay) * (cy - ay) : Int) : Rat) := by
  unfold dotQ
  rw [ha.x, ha.y, hb.x, hb.y, hc.x, hc.y]
  simp only [Rat.intCast_sub, Rat.intCast_mul, Rat.intCast_add]
theorem sgnQ_int (m n : Int) : sgnQ (m : Rat) (n : Rat) = sgn m n := by
  unfold sgnQ sgn
  simp only [Rat.intCast_lt_intCast]
theorem sgnQ_int0 (m : Int) : sgnQ (m : Rat) 0 = sgn m 0 := sgnQ_int m 0
end Go.Eng
namespace Go.Eng
end Go.Eng
set_option linter.all false
set_option exponentiation.threshold 3000
namespace Go.Eng
set_option maxRecDepth 100000
structure SK where
  tyN : Rt → Int
  tyD : Rt → Int
  tyOK : Rt → Bool
  b63 : Int → Bool
  b31 : Int → Bool
  plus : Bool → Rt → Rt → Rt
def tyB (r : Rt) : Bool := decide (r.N.d.n < 2 ^ 31) && (decide (r.D.d.n < 2 ^ 31) && isRt r)
def stdK : SK where
  tyN r := if tyB r then wval r.N else 0
  tyD r := if tyB r then wval r.D else 0
  tyOK := tyB
  b63 n := decide (-9223372036854775807 ≤ n) && decide (n ≤ 9223372036854775807)
  b31 n := decide (-2147483648 ≤ n) && decide (n ≤ 2147483648)
  plus l a b := if l then stdF.sub a b else stdF.add a b
theorem b63_iff {n : Int} : stdK.b63 n = true ↔ -9223372036854775807 ≤ n ∧ n ≤ 9223372036854775807 := by
  show (decide (-9223372036854775807 ≤ n) && decide (n ≤ 9223372036854775807)) = true ↔ _
  rw [Bool.and_eq_true, decide_eq_true_eq, decide_eq_true_eq]
theorem ty_is {r : Rt} (h : tyB r = true) : SafeR r 31 ∧ stdK.tyN r = wval r.N ∧ stdK.tyD r = wval r.D := by
  have e1 : stdK.tyN r = wval r.N := by show (if tyB r = true then _ else _) = _; rw [h]; rfl
  have e2 : stdK.tyD r = wval r.D := by show (if tyB r = true then _ else _) = _; rw [h]; rfl
  unfold tyB at h
  rw [Bool.and_eq_true, Bool.and_eq_true] at h
  have h1 : r.N.d.n < 2 ^ 31 := of_decide_eq_true h.1
  have h2 : r.D.d.n < 2 ^ 31 := of_decide_eq_true h.2.1
  exact ⟨⟨isRt_iff.1 h.2.2, by unfold Sm; rw [wval_abs]; exact h1, by unfold Sm; rw [wval_abs]; exact h2⟩, e1, e2⟩
theorem ty_two {a b : Rt} (ha : tyB a = true) (hb : tyB b = true) : twoB a b = true := by
  unfold twoB
  rw [safeR_mk (ty_is ha).1 (by decide), safeR_mk (ty_is hb).1 (by decide)]; rfl
structure SmallK (A : Alg) (a b : Rt) : Prop where
  lt : A.cmp .lss (A.bin .mul .i64 (stdK.tyN a) (stdK.tyD b)) (A.bin .mul .i64 (stdK.tyN b) (stdK.tyD a)) = decide (rval a < rval b)
  gt : A.cmp .gtr (A.bin .mul .i64 (stdK.tyN a) (stdK.tyD b)) (A.bin .mul .i64 (stdK.tyN b) (stdK.tyD a)) = decide (rval b < rval a)
  o1 : stdK.b63 (A.bin .add .i64 (A.bin .mul .i64 (stdK.tyN a) (stdK.tyD b)) (A.bin .mul .i64 (stdK.tyN b) (stdK.tyD a))) = true
  o2 : stdK.b63 (A.bin .mul .i64 (stdK.tyD a) (stdK.tyD b)) = true
  o3 : A.cmp .gtr (A.bin .mul .i64 (stdK.tyD a) (stdK.tyD b)) 0 = true
  add : stdF.made (A.bin .add .i64 (A.bin .mul .i64 (stdK.tyN a) (stdK.tyD b)) (A.bin .mul .i64 (stdK.tyN b) (stdK.tyD a))) (A.bin .mul .i64 (stdK.tyD a) (stdK.tyD b)) = ofQ (rval a + rval b)
  o4 : stdK.b63 (A.bin .add .i64 (A.bin .mul .i64 (stdK.tyN a) (stdK.tyD b)) (A.bin .mul .i64 (A.bin .sub .i64 0 (stdK.tyN b)) (stdK.tyD a))) = true
  sub : stdF.made (A.bin .add .i64 (A.bin .mul .i64 (stdK.tyN a) (stdK.tyD b)) (A.bin .mul .i64 (A.bin .sub .i64 0 (stdK.tyN b)) (stdK.tyD a))) (A.bin .mul .i64 (stdK.tyD a) (stdK.tyD b)) = ofQ (rval a - rval b)
  o5 : stdK.b63 (A.bin .mul .i64 (stdK.tyN a) (stdK.tyN b)) = true
  mul : stdF.made (A.bin .mul .i64 (stdK.tyN a) (stdK.tyN b)) (A.bin .mul .i64 (stdK.tyD a) (stdK.tyD b)) = ofQ (rval a * rval b)
  z : A.cmp .neq (stdK.tyN b) 0 = decide (rval b ≠ 0)
  p1 : A.cmp .neq (stdK.tyN b) 0 = true → A.cmp .lss (stdK.tyN b) 0 = false → stdK.b63 (A.bin .mul .i64 (stdK.tyN a) (stdK.tyD b)) = true ∧ stdK.b63 (A.bin .mul .i64 (stdK.tyD a) (stdK.tyN b)) = true ∧ A.cmp .gtr (A.bin .mul .i64 (stdK.tyD a) (stdK.tyN b)) 0 = true ∧
    stdF.made (A.bin .mul .i64 (stdK.tyN a) (stdK.tyD b)) (A.bin .mul .i64 (stdK.tyD a) (stdK.tyN b)) = ofQ (rval a / rval b)
  p2 : A.cmp .neq (stdK.tyN b) 0 = true → A.cmp .lss (stdK.tyN b) 0 = true → stdK.b63 (A.bin .mul .i64 (A.bin .sub .i64 0 (stdK.tyN a)) (stdK.tyD b)) = true ∧ stdK.b63 (A.bin .mul .i64 (stdK.tyD a) (A.bin .sub .i64 0 (stdK.tyN b))) = true ∧ A.cmp .gtr (A.bin .mul .i64 (stdK.tyD a) (A.bin .sub .i64 0 (stdK.tyN b))) 0 = true ∧
    stdF.made (A.bin .mul .i64 (A.bin .sub .i64 0 (stdK.tyN a)) (stdK.tyD b)) (A.bin .mul .i64 (stdK.tyD a) (A.bin .sub .i64 0 (stdK.tyN b))) = ofQ (rval a / rval b)
theorem small_k {a b : Rt} (ha : tyB a = true) (hb : tyB b = true) (A : Alg) (hA : A = stdA) : SmallK A a b := by
  subst hA
  obtain ⟨sa, an, ad⟩ := ty_is ha
  obtain ⟨sb, bn, bd⟩ := ty_is hb
  have b63 : ∀ z : Int, Sm 63 z → stdK.b63 z = true := fun z hz => by
    have hz : z.natAbs < 2 ^ 63 := hz
    rw [b63_iff]
    omega
  have mu : ∀ x y : Int, Sm 31 x → Sm 31 y → stdA.bin .mul .i64 x y = x * y ∧ Sm 62 (x * y) := fun x y hx hy => by
    have h : Sm 62 (x * y) := hx.mul hy
    have h' : (x * y).natAbs < 2 ^ 62 := h
    refine ⟨?_, h⟩
    show IntKind.i64.wrap (x * y) = _
    rw [IntKind.wrap_i64]; omega
  have adl : ∀ x y : Int, Sm 62 x → Sm 62 y → stdA.bin .add .i64 x y = x + y ∧ Sm 63 (x + y) := fun x y hx hy => by
    have h : Sm 63 (x + y) := hx.add hy
    have h' : (x + y).natAbs < 2 ^ 63 := h
    refine ⟨?_, h⟩
    show IntKind.i64.wrap (x + y) = _
    rw [IntKind.wrap_i64]; omega
  have ng : ∀ x : Int, Sm 31 x → stdA.bin .sub .i64 0 x = -x ∧ Sm 31 (-x) := fun x hx => by
    have h' : x.natAbs < 2 ^ 31 := hx
    refine ⟨?_, hx.neg⟩
    show IntKind.i64.wrap (0 - x) = _
    rw [IntKind.wrap_i64]; omega
  obtain ⟨m1, s1⟩ := mu _ _ sa.n sb.d
  obtain ⟨m2, s2⟩ := mu _ _ sb.n sa.d
  obtain ⟨m3, s3⟩ := mu _ _ sa.d sb.d
  obtain ⟨m4, s4⟩ := mu _ _ sa.n sb.n
  obtain ⟨m5, s5⟩ := mu _ _ sa.d sb.n
  obtain ⟨m6, s6⟩ := adl _ _ s1 s2
  obtain ⟨n1, t1⟩ := ng _ sb.n
  obtain ⟨n2, t2⟩ := ng _ sa.n
  obtain ⟨m7, s7⟩ := mu _ _ t1 sa.d
  obtain ⟨m8, s8⟩ := adl _ _ s1 s7
  obtain ⟨m9, s9⟩ := mu _ _ t2 sb.d
  obtain ⟨m0, s0⟩ := mu _ _ sa.d t1
  have hz : rval b = 0 ↔ wval b.N = 0 := rval_zero sb.is
  have hc := cmp_q sa.is sb.is
  obtain ⟨a1, a2⟩ := rval_num sa.is
  obtain ⟨b1, b2⟩ := rval_num sb.is
  have e1 : rval a < rval b ↔ wval a.N * wval b.D < wval b.N * wval a.D := by rw [Rat.lt_iff, a1, a2, b1, b2]
  have e2 : rval b < rval a ↔ wval b.N * wval a.D < wval a.N * wval b.D := by rw [Rat.lt_iff, a1, a2, b1, b2]
  have pa := sa.is.p
  have pb := sb.is.p
  have sm : ∀ z : Int, Sm 62 z → stdK.b63 z = true := fun z hz => b63 z (hz.mono (by decide))
  refine ⟨?_, ?_, ?_, ?_, ?_, ?_, ?_, ?_, ?_, ?_, ?_, fun h h' => ?_, fun h h' => ?_⟩
  all_goals (try rw [an]); (try rw [ad]); (try rw [bn]); (try rw [bd])
  · rw [m1, m2]; show decide _ = decide _; rw [decide_eq_decide]; exact e1.symm
  · rw [m1, m2]; show decide _ = decide _; rw [decide_eq_decide]; exact e2.symm
  · rw [m1, m2, m6]; exact b63 _ s6
  · rw [m3]; exact sm _ s3
  · rw [m3]; exact decide_eq_true (Int.mul_pos pa pb)
  · rw [m1, m2, m3, m6]; show ofQ (Rat.divInt _ _) = _; rw [rval_add sa.is sb.is]
  · rw [m1, n1, m7, m8]; exact b63 _ s8
  · rw [m1, n1, m7, m8, m3]; show ofQ (Rat.divInt _ _) = _; rw [← rval_sub sa.is sb.is, Int.neg_mul, ← Int.sub_eq_add_neg]
  · rw [m4]; exact sm _ s4
  · rw [m4, m3]; show ofQ (Rat.divInt _ _) = _; rw [rval_mul]
  · show (wval b.N != 0) = decide (rval b ≠ 0)
    by_cases h : wval b.N = 0
    · rw [decide_eq_false (by simp [hz.2 h]), h]; rfl
    · rw [decide_eq_true (show rval b ≠ 0 from fun h' => h (hz.1 h')), bne_iff_ne]; exact h
  · rw [bn] at h h'
    have h : (wval b.N != 0) = true := h
    rw [bne_iff_ne] at h
    have h' : ¬ wval b.N < 0 := of_decide_eq_false h'
    rw [m1, m5]
    refine ⟨sm _ s1, sm _ s5, decide_eq_true (Int.mul_pos pa (by omega)), ?_⟩
    show ofQ (Rat.divInt _ _) = _; rw [rval_div]
  · rw [bn] at h h'
    have h' : wval b.N < 0 := of_decide_eq_true h'
    rw [n1, n2, m9, m0]
    refine ⟨sm _ s9, sm _ s0, decide_eq_true (Int.mul_pos pa (by omega)), ?_⟩
    show ofQ (Rat.divInt _ _) = _
    rw [Int.neg_mul, Int.mul_neg, Rat.neg_divInt_neg, rval_div]
end Go.Eng
set_option linter.all false
set_option exponentiation.threshold 3000
namespace Go.Eng
structure EqA (A : Alg) : Prop where
  b : ∀ x : Bool, A.beq x x = true
  i : ∀ n : Int, A.cmp .eql n n = true
  r : ∀ r : Rt, A.eqR r r = true
  p : ∀ r : Pt, A.eqP r r = true
  t : ∀ b, A.ite true b false = b
  f : ∀ b, A.ite false b false = false
  n0 : A.not false = true
  n1 : A.not true = false
  ot : ∀ b, A.ite true true b = true
  of : ∀ b, A.ite false true b = b
  an : ∀ b, A.and true b = b
theorem eq_a (A : Alg) (hA : A = stdA) : EqA A := by
  subst hA
  exact ⟨fun x => by show (x == x) = true; cases x <;> rfl, fun n => by show (n == n) = true; simp, fun r => eqR_of rfl, fun r => eqP_of rfl, fun b => rfl, fun b => rfl, rfl, rfl, fun b => rfl, fun b => rfl, fun b => rfl⟩
end Go.Eng

