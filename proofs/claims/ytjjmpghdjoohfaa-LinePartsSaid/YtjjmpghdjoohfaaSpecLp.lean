
import Derived.Test.YtjjmpghdjoohfaaSpecLm
set_option linter.all false
set_option exponentiation.threshold 3000
namespace Go.Eng
set_option maxRecDepth 100000
set_option maxHeartbeats 2000000
set_option linter.all false
theorem mul_nonpos_iff {x k : Int} (hk : 0 < k) : x * k ≤ 0 ↔ x ≤ 0 := by
  constructor
  · intro h
    rcases (show 0 < x ∨ x ≤ 0 by omega) with g | g
    · have := Int.mul_pos g hk; omega
    · exact g
  · intro h
    have := Int.mul_le_mul_of_nonneg_right h (Int.le_of_lt hk)
    omega
theorem sq_sum_pos {x y : Int} (h : x ≠ 0 ∨ y ≠ 0) : 0 < x * x + y * y := by
  have nn : ∀ z : Int, 0 ≤ z * z := fun z => by
    rcases Int.le_total 0 z with g | g
    · exact Int.mul_nonneg g g
    · have := Int.mul_nonneg (show 0 ≤ -z by omega) (show 0 ≤ -z by omega)
      rw [Int.neg_mul_neg] at this; exact this
  have ps : ∀ z : Int, z ≠ 0 → 0 < z * z := fun z g => by
    rcases Int.lt_or_gt_of_ne g with g | g
    · have := Int.mul_pos (show 0 < -z by omega) (show 0 < -z by omega)
      rw [Int.neg_mul_neg] at this; exact this
    · exact Int.mul_pos g g
  have a := nn x
  have b := nn y
  rcases h with h | h
  · have := ps _ h; omega
  · have := ps _ h; omega
def Lin (ax ay dx dy : Int) (p : Pt) (t : Int) : Prop := AtP p (ax + t * dx) (ay + t * dy)
theorem on_lin {ax ay dx dy : Int} (hd : dx ≠ 0 ∨ dy ≠ 0) {p q r : Pt} {s t u : Int} (hp : Lin ax ay dx dy p s) (hq : Lin ax ay dx dy q t) (hr : Lin ax ay dx dy r u) : onP p q r = true ↔ (s - u) * (t - u) ≤ 0 := by
  rw [on_iff, cross_int hp hq hr, dot_int hr hp hq]
  have e1 : (ax + t * dx - (ax + s * dx)) * (ay + u * dy - (ay + s * dy)) - (ay + t * dy - (ay + s * dy)) * (ax + u * dx - (ax + s * dx)) = 0 := by grind
  have e2 : (ax + s * dx - (ax + u * dx)) * (ax + t * dx - (ax + u * dx)) + (ay + s * dy - (ay + u * dy)) * (ay + t * dy - (ay + u * dy)) = (s - u) * (t - u) * (dx * dx + dy * dy) := by grind
  rw [e1, e2]
  constructor
  · intro ⟨_, h⟩
    have h : ((((s - u) * (t - u) * (dx * dx + dy * dy)) : Int) : Rat) ≤ ((0 : Int) : Rat) := h
    rw [Rat.intCast_le_intCast] at h
    exact (mul_nonpos_iff (sq_sum_pos hd)).1 h
  · intro h
    refine ⟨rfl, ?_⟩
    show ((((s - u) * (t - u) * (dx * dx + dy * dy)) : Int) : Rat) ≤ ((0 : Int) : Rat)
    rw [Rat.intCast_le_intCast]
    exact (mul_nonpos_iff (sq_sum_pos hd)).2 h
theorem lin_ne {ax ay dx dy : Int} (hd : dx ≠ 0 ∨ dy ≠ 0) {p q : Pt} {s t : Int} (hp : Lin ax ay dx dy p s) (hq : Lin ax ay dx dy q t) (h : s ≠ t) : p ≠ q := by
  rintro rfl
  have e1 : ((ax + s * dx : Int) : Rat) = ((ax + t * dx : Int) : Rat) := by rw [← hp.x, ← hq.x]
  have e2 : ((ay + s * dy : Int) : Rat) = ((ay + t * dy : Int) : Rat) := by rw [← hp.y, ← hq.y]
  have e1 := Rat.intCast_inj.1 e1
  have e2 := Rat.intCast_inj.1 e2
  have k1 : (s - t) * dx = 0 := by rw [Int.sub_mul]; omega
  have k2 : (s - t) * dy = 0 := by rw [Int.sub_mul]; omega
  rcases hd with hd | hd
  · rcases Int.mul_eq_zero.1 k1 with g | g
    · omega
    · exact hd g
  · rcases Int.mul_eq_zero.1 k2 with g | g
    · omega
    · exact hd g
structure LinF (a c b x : Pt) (p q j : Int) : Prop where
  o : onP a b c = true
  e : onP a b x = true
  f : onP a c x = decide (j ≤ p)
  g : onP c b x = decide (j ≥ p)
  h : meetP a c c b = 1
  i : meetP a b c b = 2
theorem lin_f {ax ay dx dy : Int} (hd : dx ≠ 0 ∨ dy ≠ 0) {a b c x : Pt} {p q j : Int} (hp : 0 < p) (hq : 0 < q) (j0 : 0 ≤ j) (j1 : j ≤ p + q) (ha : Lin ax ay dx dy a 0) (hc : Lin ax ay dx dy c p) (hb : Lin ax ay dx dy b (p + q)) (hx : Lin ax ay dx dy x j) : LinF a c b x p q j := by
  have nb : ∀ {t : Bool} {P : Prop}, (t = true ↔ P) → ¬ P → t = false := fun {t P} h g => by cases t; rfl; exact absurd (h.1 rfl) g
  have neg : ∀ {u v : Int}, u ≤ 0 → 0 ≤ v → u * v ≤ 0 := fun {u v} h g => by
    have := Int.mul_nonneg (show 0 ≤ -u by omega) g
    rw [Int.neg_mul] at this; omega
  have o : onP a b c = true := (on_lin hd ha hb hc).2 (neg (by omega) (by omega))
  have e : onP a b x = true := (on_lin hd ha hb hx).2 (neg (by omega) (by omega))
  refine ⟨o, e, ?_, ?_, ?_, ?_⟩
  · rw [Bool.eq_iff_iff, decide_eq_true_eq, on_lin hd ha hc hx]
    constructor
    · intro h
      rcases (show p < j ∨ j ≤ p by omega) with g | g
      · have := Int.mul_pos (show 0 < j by omega) (show 0 < j - p by omega)
        have e : (0 - j) * (p - j) = j * (j - p) := by grind
        rw [e] at h; omega
      · exact g
    · intro h; exact neg (by omega) (by omega)
  · rw [Bool.eq_iff_iff, decide_eq_true_eq, on_lin hd hc hb hx]
    constructor
    · intro h
      rcases (show j < p ∨ p ≤ j by omega) with g | g
      · have := Int.mul_pos (show 0 < p - j by omega) (show 0 < p + q - j by omega)
        omega
      · exact g
    · intro h; exact neg (by omega) (by omega)
  · have k1 : onP c b a = false := nb (on_lin hd hc hb ha) (fun h => by
      have := Int.mul_pos hp (show 0 < p + q by omega)
      have e : (p - 0) * (p + q - 0) = p * (p + q) := by grind
      rw [e] at h; omega)
    have k2 : onP c a b = false := nb (on_lin hd hc ha hb) (fun h => by
      have := Int.mul_pos hq (show 0 < p + q by omega)
      have e : (p - (p + q)) * (0 - (p + q)) = q * (p + q) := by grind
      rw [e] at h; omega)
    have h1 : oneP a c c b = true := one_iff.2 (.inr (.inr (.inl ⟨rfl, by unfold eok; rw [k1, k2]; rfl⟩)))
    unfold meetP
    rw [h1]; rfl
  · have n1 : a ≠ c := lin_ne hd ha hc (by omega)
    have n2 : a ≠ b := lin_ne hd ha hb (by omega)
    have n3 : b ≠ c := lin_ne hd hb hc (by omega)
    have k : onP b a c = true := by rw [on_sym]; exact o
    have h1 : oneP a b c b = false := by
      cases g : oneP a b c b
      · rfl
      · exfalso
        rcases one_iff.1 g with ⟨g, _⟩ | ⟨g, _⟩ | ⟨g, _⟩ | ⟨_, g⟩
        · exact n1 g
        · exact n2 g
        · exact n3 g
        · unfold eok at g
          rw [k, decide_eq_false (show ¬ c = b from fun h => n3 h.symm)] at g
          simp at g
    have h2 : anyP a b c b = true := by unfold anyP; rw [on_r]; simp
    unfold meetP
    rw [h1, h2]; rfl
end Go.Eng

