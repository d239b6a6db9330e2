
import Derived.Test.YtjjmpghdjoohfaaGreatSpecFA
set_option linter.all false
set_option exponentiation.threshold 3000
namespace Go.Eng
set_option maxRecDepth 100000
set_option maxHeartbeats 2000000
theorem sgn_between (p q r : Rat) : 0 ≤ sgnQ p q * sgnQ q r ↔ (p ≤ q ∧ q ≤ r) ∨ (r ≤ q ∧ q ≤ p) := by
  rcases sgnQ_cases p q with ⟨h, e, _⟩ | ⟨h, e, _⟩ | ⟨h, e, _⟩ <;> rcases sgnQ_cases q r with ⟨g, e', _⟩ | ⟨g, e', _⟩ | ⟨g, e', _⟩ <;> rw [e, e'] <;> constructor <;> intro h' <;> first | decide | (exact absurd h' (by decide)) | (left; constructor <;> grind) | (right; constructor <;> grind) | (exfalso; grind)
theorem sgn3' (p q : Rat) : sgnQ p q = -1 ∨ sgnQ p q = 0 ∨ sgnQ p q = 1 := by
  rcases sgnQ_cases p q with ⟨h, e, _⟩ | ⟨h, e, _⟩ | ⟨h, e, _⟩ <;> rw [e] <;> simp
theorem sgnQ_anti (p q : Rat) : sgnQ q p = -sgnQ p q := by
  rcases sgnQ_cases p q with ⟨_, e, e'⟩ | ⟨_, e, e'⟩ | ⟨_, e, e'⟩ <;> rw [e, e'] <;> rfl
theorem part_of {p q r : Rat} (h : p ≠ r) (hb : (p ≤ q ∧ q ≤ r) ∨ (r ≤ q ∧ q ≤ p)) : ∃ t, 0 ≤ t ∧ t ≤ 1 ∧ q - p = t * (r - p) := by
  have hne : r - p ≠ 0 := fun e => h (by grind)
  have ht : (q - p) / (r - p) * (r - p) = q - p := Rat.div_mul_cancel hne
  generalize (q - p) / (r - p) = t at ht
  refine ⟨t, ?_, ?_, ht.symm⟩
  · rcases hb with ⟨h1, h2⟩ | ⟨h1, h2⟩
    · have hp : 0 < r - p := by
        rcases Rat.le_iff_lt_or_eq.1 (by grind : 0 ≤ r - p) with g | g
        · exact g
        · exact absurd g.symm hne
      exact nonneg_of_mul hp (by grind)
    · have hp : 0 < p - r := by
        rcases Rat.le_iff_lt_or_eq.1 (by grind : 0 ≤ p - r) with g | g
        · exact g
        · exact absurd (by grind) hne
      exact nonneg_of_mul hp (by grind)
  · have key : 0 ≤ 1 - t := by
      rcases hb with ⟨h1, h2⟩ | ⟨h1, h2⟩
      · have hp : 0 < r - p := by
          rcases Rat.le_iff_lt_or_eq.1 (by grind : 0 ≤ r - p) with g | g
          · exact g
          · exact absurd g.symm hne
        exact nonneg_of_mul hp (by grind)
      · have hp : 0 < p - r := by
          rcases Rat.le_iff_lt_or_eq.1 (by grind : 0 ≤ p - r) with g | g
          · exact g
          · exact absurd (by grind) hne
        exact nonneg_of_mul hp (by grind)
    grind
theorem on_part {a b p : Pt} {t : Rat} (t0 : 0 ≤ t) (t1 : t ≤ 1) (hx : px p - px a = t * (px b - px a)) (hy : py p - py a = t * (py b - py a)) : onP a b p = true := by
  rw [on_iff]
  constructor
  · unfold crossQ; rw [hx, hy]; grind
  · have e : dotQ p a b = -(t * (1 - t) * ((px b - px a) * (px b - px a) + (py b - py a) * (py b - py a))) := by
      have e1 : px a - px p = -(t * (px b - px a)) := by grind
      have e2 : px b - px p = (1 - t) * (px b - px a) := by grind
      have e3 : py a - py p = -(t * (py b - py a)) := by grind
      have e4 : py b - py p = (1 - t) * (py b - py a) := by grind
      unfold dotQ
      rw [e1, e2, e3, e4]; grind
    rw [e]
    have s1 := rsq (px b - px a)
    have s2 := rsq (py b - py a)
    have := Rat.mul_nonneg (Rat.mul_nonneg t0 (by grind : 0 ≤ 1 - t)) (by grind : 0 ≤ (px b - px a) * (px b - px a) + (py b - py a) * (py b - py a))
    grind
structure S8 (x : Int) : Prop where
  a : -128 ≤ x
  b : x < 128
theorem S8.sm {x : Int} (h : S8 x) : Sm 60 x := by
  have := h.a
  have := h.b
  show x.natAbs < 2 ^ 60
  omega
structure LhF (A : Alg) (F : SF) (H : SH) (J : SJ) (x1 y1 x2 y2 : Int) (x : Rt) : Prop where
  c : A.not (A.beq (J.yok (H.at_ x1 y1) (H.at_ x2 y2) x) (A.ite (A.cmp .neq x1 x2) (A.cmp .leq (A.bin .mul .i64 (F.cmp x (H.at_ x1 y1).X) (F.cmp x (H.at_ x2 y2).X)) 0) false)) = false
  al : J.yok (H.at_ x1 y1) (H.at_ x2 y2) x = true → H.all [H.at_ x1 y1, H.at_ x2 y2, ⟨x, J.yat (H.at_ x1 y1) (H.at_ x2 y2) x⟩] = true
  on : J.yok (H.at_ x1 y1) (H.at_ x2 y2) x = true → J.on (H.at_ x1 y1) (H.at_ x2 y2) ⟨x, J.yat (H.at_ x1 y1) (H.at_ x2 y2) x⟩ = true
  z : J.yok (H.at_ x1 y1) (H.at_ x2 y2) x = true → A.ite (A.cmp .eql y1 y2) true (A.ite (J.xok (H.at_ x1 y1) (H.at_ x2 y2) (J.yat (H.at_ x1 y1) (H.at_ x2 y2) x)) (A.eqR (J.xat (H.at_ x1 y1) (H.at_ x2 y2) (J.yat (H.at_ x1 y1) (H.at_ x2 y2) x)) x) false) = true
  t : ∀ b, A.ite true b false = b
theorem lh_f {x1 y1 x2 y2 n d : Int} (hx1 : S8 x1) (hy1 : S8 y1) (hx2 : S8 x2) (hy2 : S8 y2) (n0 : 0 ≤ n) (n1 : n < 256) (d0 : 0 ≤ d) (d1 : d < 256) (A : Alg) (hA : A = stdA) (S : SW) (hS : S = stdW) (F : SF) (hF : F = stdF) (H : SH) (hH : H = stdH) (J : SJ) (hJ : J = stdJ) (x : Rt) (hx : x = F.new (S.from64 n) (S.from64 (d + 1))) : F.newOK (S.from64 n) (S.from64 (d + 1)) = true ∧ LhF A F H J x1 y1 x2 y2 x := by
  subst hA hS hF hH hJ
  have a := atP hx1.sm hy1.sm
  have b := atP hx2.sm hy2.sm
  have e1 : wval (stdW.from64 n) = n := wval_ofZ (Sm.fit (k := 64) (by show n.natAbs < 2 ^ 64; omega) (by decide))
  have e2 : wval (stdW.from64 (d + 1)) = d + 1 := wval_ofZ (Sm.fit (k := 64) (by show (d + 1).natAbs < 2 ^ 64; omega) (by decide))
  have hn : newB (stdW.from64 n) (stdW.from64 (d + 1)) = true := newB_mk (by rw [e1]; show n.natAbs < 2 ^ 1023; exact Nat.lt_of_lt_of_le (by omega : n.natAbs < 2 ^ 64) (Nat.pow_le_pow_right (by decide) (by decide))) (by rw [e2]; show (d + 1).natAbs < 2 ^ 1023; exact Nat.lt_of_lt_of_le (by omega : (d + 1).natAbs < 2 ^ 64) (Nat.pow_le_pow_right (by decide) (by decide))) (by rw [e2]; omega) (isWd_ofZ _) (isWd_ofZ _)
  have eN : stdF.new (stdW.from64 n) (stdW.from64 (d + 1)) = ofQ (Rat.divInt n (d + 1)) := by rw [new_q hn, e1, e2]
  have hq : SmQ 10 (Rat.divInt n (d + 1)) := SmQ.div (by show n.natAbs < 2 ^ 10; omega) (by show (d + 1).natAbs < 2 ^ 10; omega) (by omega)
  have cx : Cal (ofQ (Rat.divInt n (d + 1))) (Rat.divInt n (d + 1)) 10 := Cal.q hq (by decide)
  have qe : Rat.divInt n (d + 1) * ((d + 1 : Int) : Rat) = (n : Rat) := by
    rw [Rat.divInt_eq_div]
    exact Rat.div_mul_cancel (fun h => by have := Rat.intCast_eq_zero_iff.1 h; omega)
  rw [eN] at hx
  subst hx
  generalize hQ : Rat.divInt n (d + 1) = q at *
  have sx : safeR (ofQ q) 60 = true := safeR_mk cx.s (by decide)
  have vx : rval (ofQ q) = q := cx.v
  have hab : allP [stdH.at_ x1 y1, stdH.at_ x2 y2] = true := all2 a.is b.is
  have hok : stdJ.yok (stdH.at_ x1 y1) (stdH.at_ x2 y2) (ofQ q) = (decide ((x1 : Rat) ≠ (x2 : Rat)) && decide (0 ≤ sgnQ (x1 : Rat) q * sgnQ q (x2 : Rat))) := by
    show ((allP [stdH.at_ x1 y1, stdH.at_ x2 y2] && safeR (ofQ q) 60) && (decide (px (stdH.at_ x1 y1) ≠ px (stdH.at_ x2 y2)) && decide (0 ≤ sgnQ (px (stdH.at_ x1 y1)) (rval (ofQ q)) * sgnQ (rval (ofQ q)) (px (stdH.at_ x2 y2))))) = _
    rw [hab, sx, a.x, b.x, vx]; rfl
  have ca : Cal (stdH.at_ x1 y1).X (x1 : Rat) 60 := ⟨(isPt_iff.1 a.is).x, a.x⟩
  have cb : Cal (stdH.at_ x2 y2).X (x2 : Rat) 60 := ⟨(isPt_iff.1 b.is).x, b.x⟩
  have cx60 : Cal (ofQ q) q 60 := cx.mono (by decide)
  have u1 := (cx60.cmp ca (by decide)).2
  have v1 := (cx60.cmp cb (by decide)).2
  have key : stdJ.yok (stdH.at_ x1 y1) (stdH.at_ x2 y2) (ofQ q) = true → (x1 : Rat) ≠ (x2 : Rat) ∧ (((x1 : Rat) ≤ q ∧ q ≤ (x2 : Rat)) ∨ ((x2 : Rat) ≤ q ∧ q ≤ (x1 : Rat))) := fun h => by
    rw [hok, Bool.and_eq_true, decide_eq_true_eq, decide_eq_true_eq] at h
    exact ⟨h.1, (sgn_between _ _ _).1 h.2⟩
  have hy : stdJ.yok (stdH.at_ x1 y1) (stdH.at_ x2 y2) (ofQ q) = true → stdJ.yat (stdH.at_ x1 y1) (stdH.at_ x2 y2) (ofQ q) = ofQ (algQ x1 y1 x2 y2 q) := fun h => by
    show (if (allP [stdH.at_ x1 y1, stdH.at_ x2 y2] && safeR (ofQ q) 60) = true then (if alOKP _ _ _ = true then ofQ (algQ (px (stdH.at_ x1 y1)) (py (stdH.at_ x1 y1)) (px (stdH.at_ x2 y2)) (py (stdH.at_ x2 y2)) (rval (ofQ q))) else zeroR) else zeroR) = _
    have h' : (yrawP (stdH.at_ x1 y1) (stdH.at_ x2 y2) (ofQ q) && alOKP (stdH.at_ x1 y1).X (stdH.at_ x2 y2).X (ofQ q)) = true := h
    rw [Bool.and_eq_true] at h'
    rw [hab, sx, h'.2, a.x, a.y, b.x, b.y, vx]; rfl
  have sy : SmQ 60 (algQ x1 y1 x2 y2 q) ∨ (x1 : Rat) = (x2 : Rat) := by
    by_cases hx : (x1 : Rat) = (x2 : Rat)
    · exact .inr hx
    · left
      have hx' : x2 - x1 ≠ 0 := fun h => hx (congrArg Int.cast (by omega : x1 = x2))
      have e : algQ x1 y1 x2 y2 q = Rat.divInt (y1 * ((d + 1) * (x2 - x1)) + (n - x1 * (d + 1)) * (y2 - y1)) ((d + 1) * (x2 - x1)) := by
        have hD : (((d + 1) * (x2 - x1) : Int) : Rat) ≠ 0 := fun h => by
          have := Rat.intCast_eq_zero_iff.1 h
          rcases Int.mul_eq_zero.1 this with h | h <;> omega
        have hX : ((x2 : Rat) - (x1 : Rat)) ≠ 0 := fun h => hx (by grind)
        rw [Rat.divInt_eq_div]
        have m1 : algQ x1 y1 x2 y2 q * (((d + 1) * (x2 - x1) : Int) : Rat) = ((y1 * ((d + 1) * (x2 - x1)) + (n - x1 * (d + 1)) * (y2 - y1) : Int) : Rat) := by
          unfold algQ
          have hdv : ((q - x1) * ((y2 : Rat) - y1) / ((x2 : Rat) - x1)) * ((x2 : Rat) - x1) = (q - x1) * ((y2 : Rat) - y1) := Rat.div_mul_cancel hX
          generalize (q - x1) * ((y2 : Rat) - y1) / ((x2 : Rat) - x1) = D at hdv ⊢
          simp only [Rat.intCast_sub, Rat.intCast_mul, Rat.intCast_add] at qe ⊢
          grind
        rw [← m1]
        exact (Rat.mul_div_cancel hD).symm
      rw [e]
      have b1 : ∀ u v : Int, u.natAbs < 2 ^ 9 → v.natAbs < 2 ^ 20 → (u * v).natAbs < 2 ^ 29 := fun u v hu hv => by
        rw [Int.natAbs_mul]
        calc u.natAbs * v.natAbs < 2 ^ 9 * 2 ^ 20 := Nat.mul_lt_mul'' hu hv
          _ = 2 ^ 29 := rfl
      have hx1a := hx1.a
      have hx1b := hx1.b
      have hx2a := hx2.a
      have hx2b := hx2.b
      have hy1a := hy1.a
      have hy1b := hy1.b
      have hy2a := hy2.a
      have hy2b := hy2.b
      have p1 : ((d + 1) * (x2 - x1)).natAbs < 2 ^ 20 := by
        rw [Int.natAbs_mul]
        calc (d + 1).natAbs * (x2 - x1).natAbs < 2 ^ 10 * 2 ^ 10 := Nat.mul_lt_mul'' (by omega) (by omega)
          _ = 2 ^ 20 := rfl
      have p2 : (x1 * (d + 1)).natAbs < 2 ^ 19 := by
        rw [Int.natAbs_mul]
        calc x1.natAbs * (d + 1).natAbs < 2 ^ 9 * 2 ^ 10 := Nat.mul_lt_mul'' (by omega) (by omega)
          _ = 2 ^ 19 := rfl
      have p3 := b1 y1 _ (by omega) p1
      have p4 : ((y2 - y1) * (n - x1 * (d + 1))).natAbs < 2 ^ 29 := b1 _ _ (by omega) (by omega)
      rw [Int.mul_comm] at p4
      refine SmQ.div ?_ ?_ ?_
      · show Int.natAbs _ < 2 ^ 60
        omega
      · show Int.natAbs _ < 2 ^ 60
        omega
      · intro h
        rcases Int.mul_eq_zero.1 h with h | h <;> omega
  have cy : stdJ.yok (stdH.at_ x1 y1) (stdH.at_ x2 y2) (ofQ q) = true → Cal (ofQ (algQ x1 y1 x2 y2 q)) (algQ x1 y1 x2 y2 q) 60 := fun h => by
    rcases sy with h' | h'
    · exact Cal.q h' (by decide)
    · exact absurd h' (key h).1
  have hpt : stdJ.yok (stdH.at_ x1 y1) (stdH.at_ x2 y2) (ofQ q) = true → ptOK ⟨ofQ q, ofQ (algQ x1 y1 x2 y2 q)⟩ = true := fun h => isPt_iff.2 ⟨cx60.s, (cy h).s⟩
  have part : stdJ.yok (stdH.at_ x1 y1) (stdH.at_ x2 y2) (ofQ q) = true → ∃ t : Rat, 0 ≤ t ∧ t ≤ 1 ∧ q - x1 = t * ((x2 : Rat) - x1) ∧ algQ x1 y1 x2 y2 q - y1 = t * ((y2 : Rat) - y1) := fun h => by
    obtain ⟨h1, h2⟩ := key h
    obtain ⟨t, t0, t1, ht⟩ := part_of h1 h2
    refine ⟨t, t0, t1, ht, ?_⟩
    have hX : ((x2 : Rat) - (x1 : Rat)) ≠ 0 := fun h => h1 (by grind)
    unfold algQ
    rw [ht]
    have : t * ((x2 : Rat) - x1) * ((y2 : Rat) - y1) / ((x2 : Rat) - x1) = t * ((y2 : Rat) - y1) := by
      rw [show t * ((x2 : Rat) - x1) * ((y2 : Rat) - y1) = t * ((y2 : Rat) - y1) * ((x2 : Rat) - x1) by grind, Rat.mul_div_cancel hX]
    rw [this]; grind
  refine ⟨hn, ?_, fun h => ?_, fun h => ?_, fun h => ?_, fun b => rfl⟩
  · rw [hok, u1, v1]
    show (!((decide ((x1 : Rat) ≠ (x2 : Rat)) && decide (0 ≤ sgnQ (x1 : Rat) q * sgnQ q (x2 : Rat))) == (if (x1 != x2) = true then decide (stdBin .mul .i64 (sgnQ q x1) (sgnQ q x2) ≤ 0) else false))) = false
    have em : stdBin .mul .i64 (sgnQ q x1) (sgnQ q x2) = -(sgnQ (x1 : Rat) q * sgnQ q (x2 : Rat)) := by
      rw [sgnQ_anti (x1 : Rat) q]
      rcases sgn3' (x1 : Rat) q with e | e | e <;> rcases sgn3' q (x2 : Rat) with e' | e' | e' <;> rw [e, e'] <;> rfl
    rw [em]
    have e3 : (x1 != x2) = decide ((x1 : Rat) ≠ (x2 : Rat)) := by
      by_cases h : x1 = x2
      · rw [h]; simp
      · rw [bne_iff_ne.2 h, decide_eq_true (show (x1 : Rat) ≠ x2 from fun h' => h (Rat.intCast_inj.1 h'))]
    have e4 : decide (-(sgnQ (x1 : Rat) q * sgnQ q (x2 : Rat)) ≤ 0) = decide (0 ≤ sgnQ (x1 : Rat) q * sgnQ q (x2 : Rat)) := by rw [decide_eq_decide]; omega
    rw [e3, e4]
    cases decide ((x1 : Rat) ≠ (x2 : Rat)) <;> cases decide (0 ≤ sgnQ (x1 : Rat) q * sgnQ q (x2 : Rat)) <;> rfl
  · rw [hy h]
    exact all3 a.is b.is (hpt h)
  · rw [hy h]
    obtain ⟨t, t0, t1, h1, h2⟩ := part h
    refine on_part t0 t1 ?_ ?_
    · show rval (ofQ q) - px (stdH.at_ x1 y1) = t * (px (stdH.at_ x2 y2) - px (stdH.at_ x1 y1))
      rw [vx, a.x, b.x]; exact h1
    · show rval (ofQ (algQ x1 y1 x2 y2 q)) - py (stdH.at_ x1 y1) = t * (py (stdH.at_ x2 y2) - py (stdH.at_ x1 y1))
      rw [(cy h).v, a.y, b.y]; exact h2
  · rw [hy h]
    by_cases hyy : y1 = y2
    · show (if (y1 == y2) = true then true else _) = true
      rw [hyy]; simp
    · show (if (y1 == y2) = true then true else _) = true
      rw [beq_eq_false_iff_ne.2 hyy]
      obtain ⟨t, t0, t1, h1, h2⟩ := part h
      have hYne : (y1 : Rat) ≠ (y2 : Rat) := fun h' => hyy (Rat.intCast_inj.1 h')
      have hY : ((y2 : Rat) - (y1 : Rat)) ≠ 0 := fun h => hYne (by grind)
      have hbt : ((y1 : Rat) ≤ algQ x1 y1 x2 y2 q ∧ algQ x1 y1 x2 y2 q ≤ (y2 : Rat)) ∨ ((y2 : Rat) ≤ algQ x1 y1 x2 y2 q ∧ algQ x1 y1 x2 y2 q ≤ (y1 : Rat)) := by
        rcases (Rat.le_total : (y1 : Rat) ≤ y2 ∨ (y2 : Rat) ≤ y1) with g | g
        · left
          have k1 := Rat.mul_nonneg t0 (by grind : 0 ≤ (y2 : Rat) - y1)
          have k2 := Rat.mul_nonneg (by grind : 0 ≤ 1 - t) (by grind : 0 ≤ (y2 : Rat) - y1)
          constructor <;> grind
        · right
          have k1 := Rat.mul_nonneg t0 (by grind : 0 ≤ (y1 : Rat) - y2)
          have k2 := Rat.mul_nonneg (by grind : 0 ≤ 1 - t) (by grind : 0 ≤ (y1 : Rat) - y2)
          constructor <;> grind
      have cyy := cy h
      have syy : safeR (ofQ (algQ x1 y1 x2 y2 q)) 60 = true := safeR_mk cyy.s (by decide)
      have hsw : allP [swapP (stdH.at_ x1 y1), swapP (stdH.at_ x2 y2)] = true := by
        refine all2 ?_ ?_
        · have := isPt_iff.1 a.is
          exact isPt_iff.2 ⟨this.y, this.x⟩
        · have := isPt_iff.1 b.is
          exact isPt_iff.2 ⟨this.y, this.x⟩
      have ao : alOKP (stdH.at_ x1 y1).Y (stdH.at_ x2 y2).Y (ofQ (algQ x1 y1 x2 y2 q)) = true := by
        show (decide (py (stdH.at_ x1 y1) ≠ py (stdH.at_ x2 y2)) && decide (0 ≤ sgnQ (py (stdH.at_ x1 y1)) (rval (ofQ (algQ x1 y1 x2 y2 q))) * sgnQ (rval (ofQ (algQ x1 y1 x2 y2 q))) (py (stdH.at_ x2 y2)))) = true
        rw [a.y, b.y, cyy.v, decide_eq_true hYne, decide_eq_true ((sgn_between _ _ _).2 hbt)]; rfl
      have xo : stdJ.xok (stdH.at_ x1 y1) (stdH.at_ x2 y2) (ofQ (algQ x1 y1 x2 y2 q)) = true := by
        show ((allP [swapP (stdH.at_ x1 y1), swapP (stdH.at_ x2 y2)] && safeR (ofQ (algQ x1 y1 x2 y2 q)) 60) && alOKP (stdH.at_ x1 y1).Y (stdH.at_ x2 y2).Y (ofQ (algQ x1 y1 x2 y2 q))) = true
        rw [hsw, syy, ao]; rfl
      have xv : stdJ.xat (stdH.at_ x1 y1) (stdH.at_ x2 y2) (ofQ (algQ x1 y1 x2 y2 q)) = ofQ q := by
        show (if (allP [swapP (stdH.at_ x1 y1), swapP (stdH.at_ x2 y2)] && safeR (ofQ (algQ x1 y1 x2 y2 q)) 60) = true then (if alOKP (stdH.at_ x1 y1).Y (stdH.at_ x2 y2).Y (ofQ (algQ x1 y1 x2 y2 q)) = true then ofQ (algQ (py (stdH.at_ x1 y1)) (px (stdH.at_ x1 y1)) (py (stdH.at_ x2 y2)) (px (stdH.at_ x2 y2)) (rval (ofQ (algQ x1 y1 x2 y2 q)))) else zeroR) else zeroR) = _
        rw [hsw, syy, ao, a.y, a.x, b.y, b.x, cyy.v]
        show ofQ _ = ofQ q
        congr 1
        generalize algQ x1 y1 x2 y2 q = Y at h2 ⊢
        unfold algQ
        rw [h2]
        have : t * ((y2 : Rat) - y1) * ((x2 : Rat) - x1) / ((y2 : Rat) - y1) = t * ((x2 : Rat) - x1) := by
          rw [show t * ((y2 : Rat) - y1) * ((x2 : Rat) - x1) = t * ((x2 : Rat) - x1) * ((y2 : Rat) - y1) by grind, Rat.mul_div_cancel hY]
        rw [this]; grind
      rw [xo, xv, eqR_of rfl]; rfl
end Go.Eng

