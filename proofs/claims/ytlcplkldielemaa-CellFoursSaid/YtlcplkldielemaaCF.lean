/- The four squares of a square, in plain words. -/
import Derived.Test.YtlcplkldielemaaCK
namespace Go.Eng
set_option maxRecDepth 100000
set_option linter.all false
set_option exponentiation.threshold 3000

theorem spr_all : (List.range 64).all (fun x => [1, 2, 4, 8, 16, 32].all fun h => !(decide (x % (2 * h) = 0)) || (spr 6 ((x : Nat) + (h : Nat) : Int) == spr 6 (x : Int) + (h : Int) * h)) = true := by decide +kernel

theorem spr_add {x h : Int} (hh : h = 1 ∨ h = 2 ∨ h = 4 ∨ h = 8 ∨ h = 16 ∨ h = 32) (x0 : 0 ≤ x) (x1 : x < 64) (hm : x % (2 * h) = 0) : spr 6 (x + h) = spr 6 x + h * h := by
  have h1 := List.all_eq_true.1 spr_all x.toNat (by simp; omega)
  have h2 := List.all_eq_true.1 h1 h.toNat (by rcases hh with rfl | rfl | rfl | rfl | rfl | rfl <;> decide)
  have e1 : ((x.toNat : Nat) : Int) = x := by omega
  have e2 : ((h.toNat : Nat) : Int) = h := by omega
  rw [e1, e2, Bool.or_eq_true] at h2
  rcases h2 with h2 | h2
  · exfalso
    simp only [Bool.not_eq_true', decide_eq_false_iff_not] at h2
    apply h2
    have h3 : ((x.toNat % (2 * h.toNat) : Nat) : Int) = 0 := by rw [Int.natCast_emod, Int.natCast_mul, e1, e2]; exact hm
    exact Int.ofNat.inj h3
  · simpa using h2

structure Fours (x y s h X Y : Int) : Prop where
  eh : s = 2 * h
  hh : h = 1 ∨ h = 2 ∨ h = 4 ∨ h = 8 ∨ h = 16 ∨ h = 32
  eX : X = x + h
  eY : Y = y + h
  x0 : 0 ≤ x
  y0 : 0 ≤ y
  x1 : x + 2 * h ≤ 64
  y1 : y + 2 * h ≤ 64
  mx : x % (2 * h) = 0
  my : y % (2 * h) = 0
  is : cIs x y s = true

theorem fours_mk {x y s : Int} (hs : cIs x y s = true) (h1 : s ≠ 1) : Fours x y s (stdBin .quo .i64 s 2) (stdBin .add .i64 x (stdBin .quo .i64 s 2)) (stdBin .add .i64 y (stdBin .quo .i64 s 2)) := by
  obtain ⟨s1, s2, x0, y0, x1, y1⟩ := cIs_bd hs
  have hs' := hs
  simp only [cIs, Bool.and_eq_true, decide_eq_true_eq, pw2, Bool.or_eq_true] at hs'
  obtain ⟨⟨⟨⟨⟨⟨hp, _⟩, _⟩, _⟩, _⟩, mx⟩, my⟩ := hs'
  have e : stdBin .quo .i64 s 2 = s / 2 := by
    show IntKind.i64.wrap (s.tdiv 2) = _
    rw [IntKind.wrap_i64, Int.tdiv_eq_ediv_of_nonneg (by omega)]; omega
  have ex : stdBin .add .i64 x (s / 2) = x + s / 2 := by simp only [stdBin, IntKind.wrap_i64]; omega
  have ey : stdBin .add .i64 y (s / 2) = y + s / 2 := by simp only [stdBin, IntKind.wrap_i64]; omega
  rw [e, ex, ey]
  have e2 : 2 * (s / 2) = s := by omega
  refine ⟨by omega, by omega, rfl, rfl, x0, y0, by omega, by omega, by rw [e2]; exact mx, by rw [e2]; exact my, hs⟩

namespace Fours
variable {x y s h X Y : Int}

theorem cis (f : Fours x y s h X Y) {u v : Int} (hu : u = x ∨ u = X) (hv : v = y ∨ v = Y) : cIs u v h = true := by
  obtain ⟨eh, hh, eX, eY, x0, y0, x1, y1, mx, my, _⟩ := f
  have hp : pw2 h = true := by rcases hh with rfl | rfl | rfl | rfl | rfl | rfl <;> rfl
  simp only [cIs, Bool.and_eq_true, decide_eq_true_eq]
  refine ⟨⟨⟨⟨⟨⟨hp, by omega⟩, by omega⟩, by omega⟩, by omega⟩, ?_⟩, ?_⟩
  · rcases hh with rfl | rfl | rfl | rfl | rfl | rfl <;> omega
  · rcases hh with rfl | rfl | rfl | rfl | rfl | rfl <;> omega

theorem up (f : Fours x y s h X Y) {u v : Int} (hu : u = x ∨ u = X) (hv : v = y ∨ v = Y) : stdC.upOK u v h = true ∧ stdC.up1 u v h = x ∧ stdC.up2 u v h = y ∧ stdC.up3 u v h = s := by
  have hc := f.cis hu hv
  obtain ⟨eh, hh, eX, eY, x0, y0, x1, y1, mx, my, _⟩ := f
  have hk : (cIs u v h && decide (h ≠ 64)) = true := by rw [hc, decide_eq_true (by omega)]; rfl
  refine ⟨hk, ?_, ?_, ?_⟩
  · rw [show stdC.up1 u v h = u - u % (2 * h) from if_pos hk]
    rcases hh with rfl | rfl | rfl | rfl | rfl | rfl <;> omega
  · rw [show stdC.up2 u v h = v - v % (2 * h) from if_pos hk]
    rcases hh with rfl | rfl | rfl | rfl | rfl | rfl <;> omega
  · rw [show stdC.up3 u v h = 2 * h from if_pos hk]; omega

theorem key (f : Fours x y s h X Y) : stdC.key x y h = stdC.key x y s ∧ stdC.key X y h = stdC.key x y s + h * h ∧ stdC.key x Y h = stdC.key x y s + 2 * (h * h) ∧ stdC.key X Y h = stdC.key x y s + 3 * (h * h) := by
  have c1 := f.cis (.inl rfl) (.inl rfl)
  have c2 := f.cis (.inr rfl) (.inl rfl)
  have c3 := f.cis (.inl rfl) (.inr rfl)
  have c4 := f.cis (.inr rfl) (.inr rfl)
  obtain ⟨eh, hh, eX, eY, x0, y0, x1, y1, mx, my, hi⟩ := f
  have hk : ∀ u v t : Int, cIs u v t = true → stdC.key u v t = keyE u v := fun u v t hc => if_pos hc
  rw [hk _ _ _ hi, hk _ _ _ c1, hk _ _ _ c2, hk _ _ _ c3, hk _ _ _ c4]
  rw [key_spr x0 (by omega) y0 (by omega), key_spr (x := X) (by omega) (by omega) y0 (by omega), key_spr (y := Y) x0 (by omega) (by omega) (by omega), key_spr (x := X) (y := Y) (by omega) (by omega) (by omega) (by omega)]
  rw [eX, eY, spr_add hh x0 (by omega) mx, spr_add hh y0 (by omega) my]
  refine ⟨rfl, ?_, ?_, ?_⟩ <;> omega

theorem hpos (f : Fours x y s h X Y) : 0 < h * h := by
  rcases f.hh with rfl | rfl | rfl | rfl | rfl | rfl <;> decide

theorem cmp_lt {u v u' v' t : Int} (hl : stdC.key u v t < stdC.key u' v' t) : stdC.cmp u v t u' v' t = -1 := by
  have e : sgn (stdC.key u v t) (stdC.key u' v' t) = -1 := if_pos hl
  show (if sgn (stdC.key u v t) (stdC.key u' v' t) = 0 then _ else sgn (stdC.key u v t) (stdC.key u' v' t)) = -1
  rw [e]; rfl

theorem com_same (a t : Int) (ht : 0 < t) : com a (a + t) a (a + t) = t := by unfold com; omega
theorem com_next (a b t : Int) (hb : b = a + t) (ht : 0 < t) : com a (a + t) b (b + t) = 0 := by unfold com; omega
theorem com_prev (a b t : Int) (hb : b = a + t) (ht : 0 < t) : com b (b + t) a (a + t) = 0 := by unfold com; omega

theorem bes (f : Fours x y s h X Y) {u v u' v' : Int} (hu : u = x ∨ u = X) (hv : v = y ∨ v = Y) (hu' : u' = x ∨ u' = X) (hv' : v' = y ∨ v' = Y) :
    stdC.bes u v h u' v' h = ((decide (u = u') && decide (v ≠ v')) || (decide (u ≠ u') && decide (v = v'))) := by
  have c1 := f.cis hu hv
  have c2 := f.cis hu' hv'
  have hp : 0 < h := by rcases f.hh with h | h | h | h | h | h <;> omega
  have hcom : ∀ {a A z z' : Int}, A = a + h → (z = a ∨ z = A) → (z' = a ∨ z' = A) → (z = z' ∧ com z (z + h) z' (z' + h) = h) ∨ (z ≠ z' ∧ com z (z + h) z' (z' + h) = 0) := by
    intro a A z z' e h1 h2
    rcases h1 with rfl | rfl <;> rcases h2 with rfl | rfl
    · exact .inl ⟨rfl, com_same _ _ hp⟩
    · exact .inr ⟨by omega, com_next _ _ _ e hp⟩
    · exact .inr ⟨by omega, com_prev _ _ _ e hp⟩
    · exact .inl ⟨rfl, com_same _ _ hp⟩
  show cBes u v h u' v' h = _
  unfold cBes
  rw [c1, c2]
  rcases hcom f.eX hu hu' with ⟨e1, e2⟩ | ⟨e1, e2⟩ <;> rcases hcom f.eY hv hv' with ⟨e3, e4⟩ | ⟨e3, e4⟩ <;> rw [e2, e4] <;> simp [e1, e3, hp, show ¬ h = 0 by omega]

end Fours
end Go.Eng
