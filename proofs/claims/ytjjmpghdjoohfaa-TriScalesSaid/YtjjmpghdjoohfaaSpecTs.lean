
import Derived.Test.YtjjmpghdjoohfaaSpecFA
set_option linter.all false
set_option exponentiation.threshold 3000
namespace Go.Eng
set_option maxRecDepth 100000
set_option maxHeartbeats 2000000
set_option linter.all false
structure Like (k : Rat) (a b c x y z : Pt) : Prop where
  pos : 0 < k
  p : allP [a, b, c] = true
  q : allP [x, y, z] = true
  cr : crossQ x y z = k * crossQ a b c
  d1 : dotQ x y z = k * dotQ a b c
  d2 : dotQ y z x = k * dotQ b c a
  d3 : dotQ z x y = k * dotQ c a b
theorem mul_le_k {k x y : Rat} (hk : 0 < k) : k * x ≤ k * y ↔ x ≤ y := by
  constructor
  · intro h
    rcases (Rat.le_total : x ≤ y ∨ y ≤ x) with g | g
    · exact g
    · rcases Rat.le_iff_lt_or_eq.1 g with g | g
      · have := Rat.mul_pos hk (show 0 < x - y by grind)
        exfalso; grind
      · rw [g]; exact Rat.le_refl
  · intro h
    have := Rat.mul_nonneg (Rat.le_of_lt hk) (show 0 ≤ y - x by grind)
    grind
theorem mul_pos_k {k x : Rat} (hk : 0 < k) : 0 < k * x ↔ 0 < x := by
  constructor
  · intro h
    rcases (Rat.le_total : x ≤ 0 ∨ 0 ≤ x) with g | g
    · have := Rat.mul_nonneg (Rat.le_of_lt hk) (show 0 ≤ -x by grind)
      exfalso; grind
    · rcases Rat.le_iff_lt_or_eq.1 g with g | g
      · exact g
      · rw [← g, Rat.mul_zero] at h; exact absurd h (by decide)
  · exact Rat.mul_pos hk
theorem sgn_one {q : Rat} : sgnQ q 0 = 1 ↔ 0 < q := by
  rcases sgnQ_cases q 0 with ⟨h, e, _⟩ | ⟨h, e, _⟩ | ⟨h, e, _⟩ <;> rw [e]
  · exact ⟨fun h => absurd h (by decide), fun h' => by exfalso; grind⟩
  · exact ⟨fun h => absurd h (by decide), fun h' => by exfalso; rw [h] at h'; exact absurd h' (by decide)⟩
  · exact ⟨fun _ => h, fun _ => rfl⟩
theorem Like.good {k : Rat} {a b c x y z : Pt} (h : Like k a b c x y z) : stdE.good x y z = stdE.good a b c := by
  have r1 : crossQ y z x = crossQ x y z := cross_rot _ _ _
  have r2 : crossQ z x y = crossQ x y z := by rw [cross_rot, cross_rot]
  have r3 : crossQ b c a = crossQ a b c := cross_rot _ _ _
  have r4 : crossQ c a b = crossQ a b c := by rw [cross_rot, cross_rot]
  show (allP [x, y, z] && (decide (sgnQ (crossQ x y z) 0 = 1) && (decide (dotQ x y z ≤ crossQ x y z) && (decide (dotQ y z x ≤ crossQ y z x) && decide (dotQ z x y ≤ crossQ z x y))))) = (allP [a, b, c] && (decide (sgnQ (crossQ a b c) 0 = 1) && (decide (dotQ a b c ≤ crossQ a b c) && (decide (dotQ b c a ≤ crossQ b c a) && decide (dotQ c a b ≤ crossQ c a b)))))
  rw [h.p, h.q, r1, r2, r3, r4, h.cr, h.d1, h.d2, h.d3]
  simp only [sgn_one, mul_le_k h.pos, mul_pos_k h.pos]
theorem Like.sharp {k : Rat} {a b c x y z : Pt} (h : Like k a b c x y z) : stdE.sharp x y z = stdE.sharp a b c ∧ stdE.acute x y z = stdE.acute a b c := by
  have k0 : k ≠ 0 := fun e => by have := h.pos; rw [e] at this; exact absurd this (by decide)
  constructor
  · show (if allP [x, y, z] = true then (if 0 < dotQ x y z then ofQ (crossQ x y z / dotQ x y z) else ofQ 0) else zeroR) = (if allP [a, b, c] = true then (if 0 < dotQ a b c then ofQ (crossQ a b c / dotQ a b c) else ofQ 0) else zeroR)
    rw [h.p, h.q, if_pos rfl, if_pos rfl, h.cr, h.d1]
    by_cases g : 0 < dotQ a b c
    · rw [if_pos g, if_pos ((mul_pos_k h.pos).2 g)]
      have d0 : dotQ a b c ≠ 0 := fun e => by rw [e] at g; exact absurd g (by decide)
      have kd : k * dotQ a b c ≠ 0 := fun e => by
        have := (mul_pos_k h.pos).2 g
        rw [e] at this; exact absurd this (by decide)
      congr 1
      have e1 : crossQ a b c = (crossQ a b c / dotQ a b c) * dotQ a b c := (Rat.div_mul_cancel d0).symm
      have e2 : k * crossQ a b c = (crossQ a b c / dotQ a b c) * (k * dotQ a b c) := by
        rw [← Rat.mul_assoc, Rat.mul_comm (crossQ a b c / dotQ a b c) k, Rat.mul_assoc, ← e1]
      rw [e2, Rat.mul_div_cancel kd]
    · rw [if_neg g, if_neg (fun h' => g ((mul_pos_k h.pos).1 h'))]
  · show (allP [x, y, z] && decide (0 < dotQ x y z)) = (allP [a, b, c] && decide (0 < dotQ a b c))
    rw [h.p, h.q, h.d1]
    simp only [mul_pos_k h.pos]
structure TzF (A : Alg) (H : SH) (E : SE) (bx by_ cx cy n : Int) : Prop where
  p1 : H.all [H.at_ 0 0, H.at_ bx by_, H.at_ cx cy] = true
  p2 : H.all [H.at_ 0 0, H.at_ (-n * by_) (n * bx), H.at_ (-n * cy) (n * cx)] = true
  p3 : H.all [H.at_ 0 0, H.at_ cy cx, H.at_ by_ bx] = true
  g1 : A.beq (E.good (H.at_ 0 0) (H.at_ bx by_) (H.at_ cx cy)) (E.good (H.at_ 0 0) (H.at_ (-n * by_) (n * bx)) (H.at_ (-n * cy) (n * cx))) = true
  g2 : A.beq (E.good (H.at_ 0 0) (H.at_ bx by_) (H.at_ cx cy)) (E.good (H.at_ 0 0) (H.at_ cy cx) (H.at_ by_ bx)) = true
  s : A.eqR (E.sharp (H.at_ 0 0) (H.at_ bx by_) (H.at_ cx cy)) (E.sharp (H.at_ 0 0) (H.at_ (-n * by_) (n * bx)) (H.at_ (-n * cy) (n * cx))) = true
  t : A.beq (E.acute (H.at_ 0 0) (H.at_ bx by_) (H.at_ cx cy)) (E.acute (H.at_ 0 0) (H.at_ (-n * by_) (n * bx)) (H.at_ (-n * cy) (n * cx))) = true
theorem tz_f {bx by_ cx cy n : Int} (h1 : -128 ≤ bx ∧ bx < 128) (h2 : -128 ≤ by_ ∧ by_ < 128) (h3 : -128 ≤ cx ∧ cx < 128) (h4 : -128 ≤ cy ∧ cy < 128) (hn : 1 ≤ n ∧ n < 10) (A : Alg) (hA : A = stdA) (H : SH) (hH : H = stdH) (E : SE) (hE : E = stdE) : TzF A H E bx by_ cx cy n := by
  subst hA hH hE
  have sm : ∀ x : Int, -128 ≤ x ∧ x < 128 → Sm 60 x := fun x h => by show x.natAbs < 2 ^ 60; omega
  have smn : ∀ x : Int, -128 ≤ x ∧ x < 128 → Sm 60 (n * x) := fun x h => by
    show (n * x).natAbs < 2 ^ 60
    rw [Int.natAbs_mul]
    calc n.natAbs * x.natAbs < 2 ^ 5 * 2 ^ 10 := Nat.mul_lt_mul'' (by omega) (by omega)
      _ < 2 ^ 60 := by decide
  have smm : ∀ x : Int, -128 ≤ x ∧ x < 128 → Sm 60 (-n * x) := fun x h => by
    show (-n * x).natAbs < 2 ^ 60
    rw [Int.natAbs_mul]
    calc (-n).natAbs * x.natAbs < 2 ^ 5 * 2 ^ 10 := Nat.mul_lt_mul'' (by omega) (by omega)
      _ < 2 ^ 60 := by decide
  have z : Sm 60 0 := sm 0 (by omega)
  have a := atP z z
  have b := atP (sm _ h1) (sm _ h2)
  have c := atP (sm _ h3) (sm _ h4)
  have p := atP (smm _ h2) (smn _ h1)
  have q := atP (smm _ h4) (smn _ h3)
  have v := atP (sm _ h4) (sm _ h3)
  have u := atP (sm _ h2) (sm _ h1)
  have p1 : allP [stdH.at_ 0 0, stdH.at_ bx by_, stdH.at_ cx cy] = true := all3 a.is b.is c.is
  have p2 := all3 a.is p.is q.is
  have p3 := all3 a.is v.is u.is
  have L1 : Like ((n * n : Int) : Rat) (stdH.at_ 0 0) (stdH.at_ bx by_) (stdH.at_ cx cy) (stdH.at_ 0 0) (stdH.at_ (-n * by_) (n * bx)) (stdH.at_ (-n * cy) (n * cx)) := by
    refine ⟨?_, p1, p2, ?_, ?_, ?_, ?_⟩
    · show ((0 : Int) : Rat) < _
      rw [Rat.intCast_lt_intCast]
      exact Int.mul_pos (by omega) (by omega)
    · rw [cross_int a p q, cross_int a b c, ← Rat.intCast_mul]; congr 1; grind
    · rw [dot_int a p q, dot_int a b c, ← Rat.intCast_mul]; congr 1; grind
    · rw [dot_int p q a, dot_int b c a, ← Rat.intCast_mul]; congr 1; grind
    · rw [dot_int q a p, dot_int c a b, ← Rat.intCast_mul]; congr 1; grind
  have g2 : stdE.good (stdH.at_ 0 0) (stdH.at_ cy cx) (stdH.at_ by_ bx) = stdE.good (stdH.at_ 0 0) (stdH.at_ bx by_) (stdH.at_ cx cy) := by
    have r1 : ∀ x y z : Pt, crossQ y z x = crossQ x y z := fun x y z => cross_rot _ _ _
    have e0 : crossQ (stdH.at_ 0 0) (stdH.at_ cy cx) (stdH.at_ by_ bx) = crossQ (stdH.at_ 0 0) (stdH.at_ bx by_) (stdH.at_ cx cy) := by
      rw [cross_int a v u, cross_int a b c]; congr 1; grind
    have e1 : dotQ (stdH.at_ 0 0) (stdH.at_ cy cx) (stdH.at_ by_ bx) = dotQ (stdH.at_ 0 0) (stdH.at_ bx by_) (stdH.at_ cx cy) := by
      rw [dot_int a v u, dot_int a b c]; congr 1; grind
    have e2 : dotQ (stdH.at_ cy cx) (stdH.at_ by_ bx) (stdH.at_ 0 0) = dotQ (stdH.at_ cx cy) (stdH.at_ 0 0) (stdH.at_ bx by_) := by
      rw [dot_int v u a, dot_int c a b]; congr 1; grind
    have e3 : dotQ (stdH.at_ by_ bx) (stdH.at_ 0 0) (stdH.at_ cy cx) = dotQ (stdH.at_ bx by_) (stdH.at_ cx cy) (stdH.at_ 0 0) := by
      rw [dot_int u a v, dot_int b c a]; congr 1; grind
    generalize hx : stdH.at_ 0 0 = x at *
    generalize hy : stdH.at_ bx by_ = y at *
    generalize hz : stdH.at_ cx cy = w at *
    generalize hv : stdH.at_ cy cx = v' at *
    generalize hu : stdH.at_ by_ bx = u' at *
    show (allP [x, v', u'] && (decide (sgnQ (crossQ x v' u') 0 = 1) && (decide (dotQ x v' u' ≤ crossQ x v' u') && (decide (dotQ v' u' x ≤ crossQ v' u' x) && decide (dotQ u' x v' ≤ crossQ u' x v'))))) = (allP [x, y, w] && (decide (sgnQ (crossQ x y w) 0 = 1) && (decide (dotQ x y w ≤ crossQ x y w) && (decide (dotQ y w x ≤ crossQ y w x) && decide (dotQ w x y ≤ crossQ w x y)))))
    rw [p1, p3, r1 x y w, r1 x v' u']
    rw [show crossQ u' x v' = crossQ x v' u' from by rw [r1, r1], show crossQ w x y = crossQ x y w from by rw [r1, r1], e0, e1, e2, e3]
    cases decide (sgnQ (crossQ x y w) 0 = 1) <;> cases decide (dotQ x y w ≤ crossQ x y w) <;> cases decide (dotQ w x y ≤ crossQ x y w) <;> cases decide (dotQ y w x ≤ crossQ x y w) <;> rfl
  have eb : ∀ b : Bool, stdA.beq b b = true := fun b => by cases b <;> rfl
  refine ⟨p1, p2, p3, ?_, ?_, ?_, ?_⟩
  · rw [L1.good]; exact eb _
  · rw [g2]; exact eb _
  · rw [L1.sharp.1]; exact eqR_of rfl
  · rw [L1.sharp.2]; exact eb _
end Go.Eng

