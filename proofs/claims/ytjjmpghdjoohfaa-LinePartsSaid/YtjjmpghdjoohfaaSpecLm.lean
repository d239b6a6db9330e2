
import Derived.Test.YtjjmpghdjoohfaaSpecFA
set_option linter.all false
set_option exponentiation.threshold 3000
namespace Go.Eng
set_option maxRecDepth 100000
set_option maxHeartbeats 2000000
set_option linter.all false
theorem sgn_neg (q : Rat) : sgnQ (-q) 0 = -sgnQ q 0 := by
  rcases sgnQ_cases q 0 with ⟨h, e, _⟩ | ⟨h, e, _⟩ | ⟨h, e, _⟩ <;> rcases sgnQ_cases (-q) 0 with ⟨g, f, _⟩ | ⟨g, f, _⟩ | ⟨g, f, _⟩ <;> rw [e, f] <;> first | rfl | (exfalso; grind)
theorem one_sym (a b c d : Pt) : oneP a b c d = oneP d c a b := by
  rw [Bool.eq_iff_iff, one_iff, one_iff]
  rw [eok_sym d c b, eok_sym d c a, eok_sym c d b, eok_sym c d a]
  constructor
  · rintro (⟨rfl, h⟩ | ⟨rfl, h⟩ | ⟨rfl, h⟩ | ⟨rfl, h⟩)
    · exact .inr (.inr (.inl ⟨rfl, by first | exact h | (rw [eok_sym]; exact h)⟩))
    · exact .inl ⟨rfl, by first | exact h | (rw [eok_sym]; exact h)⟩
    · exact .inr (.inr (.inr ⟨rfl, by first | exact h | (rw [eok_sym]; exact h)⟩))
    · exact .inr (.inl ⟨rfl, by first | exact h | (rw [eok_sym]; exact h)⟩)
  · rintro (⟨rfl, h⟩ | ⟨rfl, h⟩ | ⟨rfl, h⟩ | ⟨rfl, h⟩)
    · exact .inr (.inl ⟨rfl, by first | exact h | (rw [eok_sym]; exact h)⟩)
    · exact .inr (.inr (.inr ⟨rfl, by first | exact h | (rw [eok_sym]; exact h)⟩))
    · exact .inl ⟨rfl, by first | exact h | (rw [eok_sym]; exact h)⟩
    · exact .inr (.inr (.inl ⟨rfl, by first | exact h | (rw [eok_sym]; exact h)⟩))
theorem any_sym (a b c d : Pt) : anyP a b c d = anyP d c a b := by
  unfold anyP
  rw [on_sym d c a, on_sym d c b]
  cases onP c d a <;> cases onP c d b <;> cases onP a b c <;> cases onP a b d <;> rfl
theorem crossing_sym (a b c d : Pt) : crossing a b c d = crossing d c a b := by
  unfold crossing
  rw [cross_swap c d a, cross_swap c d b, sgn_neg, sgn_neg, Int.neg_mul_neg, Int.mul_comm (sgnQ (crossQ a b d) 0), Bool.and_comm]
theorem meet_sym (a b c d : Pt) : meetP a b c d = meetP d c a b := by
  unfold meetP
  rw [one_sym a b c d, any_sym a b c d, crossing_sym a b c d]
theorem meet_any {a b c d : Pt} (h : anyP a b c d = true) : 0 < meetP a b c d := by
  unfold meetP
  rw [h, Bool.true_or, if_pos rfl]
  split <;> decide
theorem meet_self_eq (a : Pt) : meetP a a a a = 1 := by
  unfold meetP
  have h : oneP a a a a = true := one_iff.2 (.inl ⟨rfl, by unfold eok; simp⟩)
  rw [h]; rfl
theorem meet_self_ne {a b : Pt} (h : a ≠ b) : meetP a b a b = 2 := by
  unfold meetP
  have h1 : oneP a b a b = false := by
    cases he : oneP a b a b
    · rfl
    · exfalso
      have k : ∀ e u : Pt, eok e u u = true → u = e := fun e u h => by
        unfold eok at h
        rw [on_r] at h
        simpa using h
      rcases one_iff.1 he with ⟨_, g⟩ | ⟨g, _⟩ | ⟨g, _⟩ | ⟨_, g⟩
      · exact h (k _ _ g).symm
      · exact h g
      · exact h g.symm
      · exact h (k _ _ g)
  have h2 : anyP a b a b = true := by unfold anyP; rw [on_l]; simp
  rw [h1, h2]; rfl
structure LmF (A : Alg) (H : SH) (J : SJ) (a b c d : Pt) : Prop where
  p1 : H.all [a, b, c, d] = true
  p2 : H.all [d, c, a, b] = true
  p3 : H.all [a, b, a, b] = true
  p4 : H.all [a, b, b, c] = true
  p5 : H.all [a, b, a] = true
  p6 : H.all [a, b, c] = true
  p7 : H.all [a, b, d] = true
  x : J.on a b a = true
  m : A.cmp .eql (J.meet a b c d) (J.meet d c a b) = true
  k1 : A.eqP a b = true → A.cmp .eql (J.meet a b a b) 1 = true
  k2 : A.eqP a b = false → A.cmp .eql (J.meet a b a b) 2 = true
  l : A.cmp .gtr (J.meet a b b c) 0 = true
  o : A.ite (A.ite (A.not (J.on a b c)) (A.not (J.on a b d)) false) true (A.cmp .gtr (J.meet a b c d) 0) = true
  t : ∀ b, A.ite true b false = b
theorem lm_f {a b c d : Pt} (A : Alg) (hA : A = stdA) (H : SH) (hH : H = stdH) (J : SJ) (hJ : J = stdJ) (h : A.ite (A.ite (A.ite (A.not (H.all [a])) true (A.not (H.all [b]))) true (A.not (H.all [c]))) true (A.not (H.all [d])) = false) : LmF A H J a b c d := by
  subst hA hH hJ
  have h : (if (if (if (!(ptOK a && true)) = true then true else !(ptOK b && true)) = true then true else !(ptOK c && true)) = true then true else !(ptOK d && true)) = false := h
  cases ga : ptOK a
  · rw [ga] at h; cases h
  cases gb : ptOK b
  · rw [ga, gb] at h; cases h
  cases gc : ptOK c
  · rw [ga, gb, gc] at h; cases h
  cases gd : ptOK d
  · rw [ga, gb, gc, gd] at h; cases h
  clear h
  have al : ∀ l : List Pt, (∀ x, x ∈ l → ptOK x = true) → allP l = true := fun l => by
    induction l with
    | nil => intro _; rfl
    | cons x r ih => intro h; show (ptOK x && allP r) = true; rw [h x (by simp), ih fun y hy => h y (by simp [hy])]; rfl
  have p1 : allP [a, b, c, d] = true := al _ (by simp [ga, gb, gc, gd])
  have p2 : allP [d, c, a, b] = true := al _ (by simp [ga, gb, gc, gd])
  have p3 : allP [a, b, a, b] = true := al _ (by simp [ga, gb, gc, gd])
  have p4 : allP [a, b, b, c] = true := al _ (by simp [ga, gb, gc, gd])
  have me : ∀ x y z w : Pt, allP [x, y, z, w] = true → stdJ.meet x y z w = meetP x y z w := fun x y z w h => if_pos h
  have eqp : stdA.eqP a b = true ↔ a = b := by
    show decide (a = b) = true ↔ a = b
    exact decide_eq_true_iff
  have ei : ∀ n : Int, (n == n) = true := fun n => by simp
  refine ⟨p1, p2, p3, p4, al _ (by simp [ga, gb, gc, gd]), al _ (by simp [ga, gb, gc, gd]), al _ (by simp [ga, gb, gc, gd]), on_l a b, ?_, fun h => ?_, fun h => ?_, ?_, ?_, fun _ => rfl⟩
  · show (stdJ.meet a b c d == stdJ.meet d c a b) = true
    rw [me _ _ _ _ p1, me _ _ _ _ p2, meet_sym a b c d]
    exact ei _
  · show (stdJ.meet a b a b == 1) = true
    rw [me _ _ _ _ p3]
    have := eqp.1 h
    subst this
    rw [meet_self_eq]; rfl
  · show (stdJ.meet a b a b == 2) = true
    rw [me _ _ _ _ p3, meet_self_ne (fun e => by rw [eqp.2 e] at h; cases h)]; rfl
  · show decide (stdJ.meet a b b c > 0) = true
    rw [me _ _ _ _ p4]
    exact decide_eq_true (meet_any (by unfold anyP; rw [on_r]; simp))
  · show (if (if (!onP a b c) = true then !onP a b d else false) = true then true else decide (stdJ.meet a b c d > 0)) = true
    rw [me _ _ _ _ p1]
    by_cases hc : onP a b c = true
    · rw [decide_eq_true (meet_any (by unfold anyP; rw [hc]; simp))]; simp
    · by_cases hd : onP a b d = true
      · rw [decide_eq_true (meet_any (by unfold anyP; rw [hd]; simp))]; simp
      · rw [Bool.not_eq_true] at hc hd
        rw [hc, hd]; rfl
end Go.Eng

