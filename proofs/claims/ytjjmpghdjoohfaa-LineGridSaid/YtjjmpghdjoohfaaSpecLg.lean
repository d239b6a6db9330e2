
import Derived.Test.YtjjmpghdjoohfaaSpecLm
set_option linter.all false
set_option exponentiation.threshold 3000
namespace Go.Eng
set_option maxRecDepth 100000
set_option maxHeartbeats 2000000
set_option linter.all false
theorem no_on {a b c d : Pt} (h : 0 < crossQ a b c * crossQ a b d) : onP c d a = false := by
  cases g : onP c d a
  · rfl
  exfalso
  obtain ⟨g1, g2⟩ := on_iff.1 g
  have k1 : (px c - px a) * (py d - py a) - (py c - py a) * (px d - px a) = 0 := by unfold crossQ at g1; grind
  have k2 : (px c - px a) * (px d - px a) + (py c - py a) * (py d - py a) ≤ 0 := by unfold dotQ at g2; grind
  unfold crossQ at h
  generalize px b - px a = u1 at *
  generalize py b - py a = u2 at *
  generalize px c - px a = v1 at *
  generalize py c - py a = v2 at *
  generalize px d - px a = w1 at *
  generalize py d - py a = w2 at *
  clear g g1 g2
  have e : (v1 * v1 + v2 * v2) * ((u1 * v2 - u2 * v1) * (u1 * w2 - u2 * w1)) = (v1 * w1 + v2 * w2) * ((u1 * v2 - u2 * v1) * (u1 * v2 - u2 * v1)) := by
    have : (v1 * v1 + v2 * v2) * (u1 * w2 - u2 * w1) = (v1 * w1 + v2 * w2) * (u1 * v2 - u2 * v1) + (u1 * v1 + u2 * v2) * (v1 * w2 - v2 * w1) := by grind
    rw [k1] at this
    have e2 : (v1 * v1 + v2 * v2) * ((u1 * v2 - u2 * v1) * (u1 * w2 - u2 * w1)) = (u1 * v2 - u2 * v1) * ((v1 * v1 + v2 * v2) * (u1 * w2 - u2 * w1)) := by grind
    rw [e2, this]; grind
  have s1 := rsq v1
  have s2 := rsq v2
  have s3 := rsq (u1 * v2 - u2 * v1)
  generalize (u1 * v2 - u2 * v1) * (u1 * v2 - u2 * v1) = Q at *
  have hV : 0 < v1 * v1 + v2 * v2 := by
    rcases Rat.le_iff_lt_or_eq.1 (show (0 : Rat) ≤ v1 * v1 + v2 * v2 by grind) with hv | hv
    · exact hv
    · exfalso
      obtain ⟨z1, z2⟩ := sq2_zero (show v1 * v1 + v2 * v2 ≤ 0 by rw [← hv]; exact Rat.le_refl)
      rw [z1, z2] at h
      have : ¬ (0 : Rat) < 0 := by decide
      apply this
      have e : (u1 * 0 - u2 * 0) * (u1 * w2 - u2 * w1) = 0 := by grind
      rw [e] at h; exact h
  have l := Rat.mul_pos hV h
  have r := Rat.mul_nonneg (show (0 : Rat) ≤ -(v1 * w1 + v2 * w2) by grind) s3
  rw [e] at l
  grind
theorem no_any {a b c d : Pt} (h : 0 < crossQ a b c * crossQ a b d) : onP c d a = false ∧ onP c d b = false ∧ onP a b c = false ∧ onP a b d = false := by
  have h' : 0 < crossQ b a c * crossQ b a d := by
    rw [cross_swap a b c, cross_swap a b d]
    have e : -crossQ a b c * -crossQ a b d = crossQ a b c * crossQ a b d := by grind
    rw [e]; exact h
  refine ⟨no_on h, no_on h', ?_, ?_⟩
  · cases g : onP a b c
    · rfl
    · rw [(on_iff.1 g).1] at h
      exfalso
      have e : (0 : Rat) * crossQ a b d = 0 := by grind
      rw [e] at h; exact absurd h (by decide)
  · cases g : onP a b d
    · rfl
    · rw [(on_iff.1 g).1] at h
      exfalso
      have e : crossQ a b c * (0 : Rat) = 0 := by grind
      rw [e] at h; exact absurd h (by decide)
theorem one_any {a b c d : Pt} (h : anyP a b c d = false) : oneP a b c d = false := by
  cases g : oneP a b c d
  · rfl
  · rw [any_of_one g] at h; cases h
theorem sgn_mul_pos (p q : Rat) : 0 < sgnQ p 0 * sgnQ q 0 ↔ 0 < p * q := by
  have z : ¬ (0 : Rat) < 0 := by decide
  rcases sgnQ_cases p 0 with ⟨h, e, _⟩ | ⟨h, e, _⟩ | ⟨h, e, _⟩ <;> rcases sgnQ_cases q 0 with ⟨g, f, _⟩ | ⟨g, f, _⟩ | ⟨g, f, _⟩ <;> rw [e, f]
  · exact ⟨fun _ => by have := Rat.mul_pos (show 0 < -p by grind) (show 0 < -q by grind); grind, fun _ => by decide⟩
  · exact ⟨fun h => absurd h (by decide), fun h' => absurd h' (by rw [g, Rat.mul_zero]; exact z)⟩
  · exact ⟨fun h => absurd h (by decide), fun h' => by have := Rat.mul_pos (show 0 < -p by grind) g; exfalso; grind⟩
  · exact ⟨fun h => absurd h (by decide), fun h' => absurd h' (by rw [h, Rat.zero_mul]; exact z)⟩
  · exact ⟨fun h => absurd h (by decide), fun h' => absurd h' (by rw [h, Rat.zero_mul]; exact z)⟩
  · exact ⟨fun h => absurd h (by decide), fun h' => absurd h' (by rw [h, Rat.zero_mul]; exact z)⟩
  · exact ⟨fun h => absurd h (by decide), fun h' => by have := Rat.mul_pos h (show 0 < -q by grind); exfalso; grind⟩
  · exact ⟨fun h => absurd h (by decide), fun h' => absurd h' (by rw [g, Rat.mul_zero]; exact z)⟩
  · exact ⟨fun _ => Rat.mul_pos h g, fun _ => by decide⟩
theorem meet_zero {a b c d : Pt} (h : 0 < sgnQ (crossQ a b c) 0 * sgnQ (crossQ a b d) 0 ∨ 0 < sgnQ (crossQ c d a) 0 * sgnQ (crossQ c d b) 0) : meetP a b c d = 0 := by
  have k : anyP a b c d = false ∧ crossing a b c d = false := by
    rcases h with h | h
    · obtain ⟨k1, k2, k3, k4⟩ := no_any ((sgn_mul_pos _ _).1 h)
      refine ⟨by unfold anyP; rw [k1, k2, k3, k4]; rfl, ?_⟩
      unfold crossing
      rw [decide_eq_false (by omega), Bool.false_and]
    · obtain ⟨k1, k2, k3, k4⟩ := no_any ((sgn_mul_pos _ _).1 h)
      refine ⟨by unfold anyP; rw [k1, k2, k3, k4]; rfl, ?_⟩
      unfold crossing
      rw [decide_eq_false (p := sgnQ (crossQ c d a) 0 * sgnQ (crossQ c d b) 0 < 0) (by omega), Bool.and_false]
  unfold meetP
  rw [one_any k.1, k.1, k.2]; rfl
theorem meet_two {a b c d : Pt} (h1 : sgnQ (crossQ a b c) 0 * sgnQ (crossQ a b d) 0 < 0) (h2 : sgnQ (crossQ c d a) 0 * sgnQ (crossQ c d b) 0 < 0) : meetP a b c d = 2 := by
  have off : ∀ x y z w : Pt, sgnQ (crossQ x y z) 0 * sgnQ (crossQ x y w) 0 < 0 → onP x y z = false ∧ onP x y w = false := fun x y z w h => by
    constructor
    · cases g : onP x y z
      · rfl
      · rw [(on_iff.1 g).1] at h
        have : sgnQ (0 : Rat) 0 = 0 := sgnQ_zero.2 rfl
        rw [this, Int.zero_mul] at h; exact absurd h (by decide)
    · cases g : onP x y w
      · rfl
      · rw [(on_iff.1 g).1] at h
        have : sgnQ (0 : Rat) 0 = 0 := sgnQ_zero.2 rfl
        rw [this, Int.mul_zero] at h; exact absurd h (by decide)
  obtain ⟨k1, k2⟩ := off _ _ _ _ h1
  obtain ⟨k3, k4⟩ := off _ _ _ _ h2
  have ha : anyP a b c d = false := by unfold anyP; rw [k1, k2, k3, k4]; rfl
  unfold meetP
  rw [one_any ha, ha]
  unfold crossing
  rw [decide_eq_true h1, decide_eq_true h2]; rfl
structure SD where
  side : Int → Int → Int → Int → Int → Int → Int
def stdD : SD where
  side ax ay bx by_ cx cy := sgn ((bx - ax) * (cy - ay) - (by_ - ay) * (cx - ax)) 0
structure I8 (x : Int) : Prop where
  a : -128 ≤ x
  b : x < 128
theorem I8.sm {x : Int} (h : I8 x) : Sm 60 x := by
  have := h.a
  have := h.b
  show x.natAbs < 2 ^ 60
  omega
structure LgF (A : Alg) (D : SD) (H : SH) (J : SJ) (ax ay bx by_ cx cy dx dy : Int) : Prop where
  p : H.all [H.at_ ax ay, H.at_ bx by_, H.at_ cx cy, H.at_ dx dy] = true
  c2 : A.ite (A.cmp .lss (A.bin .mul .i64 (D.side ax ay bx by_ cx cy) (D.side ax ay bx by_ dx dy)) 0) (A.cmp .lss (A.bin .mul .i64 (D.side cx cy dx dy ax ay) (D.side cx cy dx dy bx by_)) 0) false = true → A.cmp .eql (J.meet (H.at_ ax ay) (H.at_ bx by_) (H.at_ cx cy) (H.at_ dx dy)) 2 = true
  c0 : A.ite (A.cmp .gtr (A.bin .mul .i64 (D.side ax ay bx by_ cx cy) (D.side ax ay bx by_ dx dy)) 0) true (A.cmp .gtr (A.bin .mul .i64 (D.side cx cy dx dy ax ay) (D.side cx cy dx dy bx by_)) 0) = true → A.cmp .eql (J.meet (H.at_ ax ay) (H.at_ bx by_) (H.at_ cx cy) (H.at_ dx dy)) 0 = true
  t : ∀ b, A.ite true b false = b
theorem sgn_three (m : Int) : sgn m 0 = -1 ∨ sgn m 0 = 0 ∨ sgn m 0 = 1 := by
  unfold sgn
  by_cases h : m < 0
  · rw [if_pos h]; exact .inl rfl
  · rw [if_neg h]
    by_cases g : 0 < m
    · rw [if_pos g]; exact .inr (.inr rfl)
    · rw [if_neg g]; exact .inr (.inl rfl)
theorem lg_f {ax ay bx by_ cx cy dx dy : Int} (h1 : I8 ax) (h2 : I8 ay) (h3 : I8 bx) (h4 : I8 by_) (h5 : I8 cx) (h6 : I8 cy) (h7 : I8 dx) (h8 : I8 dy) (A : Alg) (hA : A = stdA) (D : SD) (hD : D = stdD) (H : SH) (hH : H = stdH) (J : SJ) (hJ : J = stdJ) : LgF A D H J ax ay bx by_ cx cy dx dy := by
  subst hA hD hH hJ
  have a := atP h1.sm h2.sm
  have b := atP h3.sm h4.sm
  have c := atP h5.sm h6.sm
  have d := atP h7.sm h8.sm
  have p : allP [stdH.at_ ax ay, stdH.at_ bx by_, stdH.at_ cx cy, stdH.at_ dx dy] = true := by
    show (ptOK _ && (ptOK _ && (ptOK _ && (ptOK _ && true)))) = true
    rw [a.is, b.is, c.is, d.is]; rfl
  refine (fun k => ⟨p, k.1, k.2, fun _ => rfl⟩ : _ ∧ _ → _) ?_
  have me : stdJ.meet (stdH.at_ ax ay) (stdH.at_ bx by_) (stdH.at_ cx cy) (stdH.at_ dx dy) = meetP (stdH.at_ ax ay) (stdH.at_ bx by_) (stdH.at_ cx cy) (stdH.at_ dx dy) := if_pos p
  have sd : ∀ {p q r : Pt} {x1 y1 x2 y2 x3 y3 : Int}, AtP p x1 y1 → AtP q x2 y2 → AtP r x3 y3 → stdD.side x1 y1 x2 y2 x3 y3 = sgnQ (crossQ p q r) 0 := fun hp hq hr => by
    rw [cross_int hp hq hr, sgnQ_int0]; rfl
  have mul : ∀ m n : Int, stdA.bin .mul .i64 (sgn m 0) (sgn n 0) = sgn m 0 * sgn n 0 := fun m n => by
    show stdBin .mul .i64 _ _ = _
    rcases sgn_three m with e | e | e <;> rcases sgn_three n with f | f | f <;> rw [e, f] <;> rfl
  have e1 : stdA.bin .mul .i64 (stdD.side ax ay bx by_ cx cy) (stdD.side ax ay bx by_ dx dy) = sgnQ (crossQ (stdH.at_ ax ay) (stdH.at_ bx by_) (stdH.at_ cx cy)) 0 * sgnQ (crossQ (stdH.at_ ax ay) (stdH.at_ bx by_) (stdH.at_ dx dy)) 0 := by
    rw [← sd a b c, ← sd a b d]; exact mul _ _
  have e2 : stdA.bin .mul .i64 (stdD.side cx cy dx dy ax ay) (stdD.side cx cy dx dy bx by_) = sgnQ (crossQ (stdH.at_ cx cy) (stdH.at_ dx dy) (stdH.at_ ax ay)) 0 * sgnQ (crossQ (stdH.at_ cx cy) (stdH.at_ dx dy) (stdH.at_ bx by_)) 0 := by
    rw [← sd c d a, ← sd c d b]; exact mul _ _
  have m2 := fun h1 h2 => meet_two (a := stdH.at_ ax ay) (b := stdH.at_ bx by_) (c := stdH.at_ cx cy) (d := stdH.at_ dx dy) h1 h2
  have m0 := fun h1 => meet_zero (a := stdH.at_ ax ay) (b := stdH.at_ bx by_) (c := stdH.at_ cx cy) (d := stdH.at_ dx dy) h1
  rw [e1, e2, me]
  generalize sgnQ (crossQ (stdH.at_ ax ay) (stdH.at_ bx by_) (stdH.at_ cx cy)) 0 * sgnQ (crossQ (stdH.at_ ax ay) (stdH.at_ bx by_) (stdH.at_ dx dy)) 0 = P at *
  generalize sgnQ (crossQ (stdH.at_ cx cy) (stdH.at_ dx dy) (stdH.at_ ax ay)) 0 * sgnQ (crossQ (stdH.at_ cx cy) (stdH.at_ dx dy) (stdH.at_ bx by_)) 0 = Q at *
  refine ⟨fun h => ?_, fun h => ?_⟩
  · have h : (if decide (P < 0) = true then decide (Q < 0) else false) = true := h
    by_cases g : P < 0
    · rw [if_pos (decide_eq_true g)] at h
      rw [m2 g (of_decide_eq_true h)]; rfl
    · rw [if_neg (by rw [decide_eq_true_eq]; exact g)] at h; cases h
  · have h : (if decide (P > 0) = true then true else decide (Q > 0)) = true := h
    by_cases g : P > 0
    · rw [m0 (.inl g)]; rfl
    · rw [if_neg (by rw [decide_eq_true_eq]; exact g)] at h
      rw [m0 (.inr (of_decide_eq_true h))]; rfl
end Go.Eng

