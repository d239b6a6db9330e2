/- Contracts: the statement CellBeside. -/
import Derived.Test.YtlcplkldielemaaCC4
namespace Go.Eng
open Go.Proofs
set_option maxRecDepth 100000
set_option linter.all false
set_option exponentiation.threshold 3000

def tL3 (A : Alg) (S : SW) (R : SR) (X : SX) (C : SC) : List (Nat × Sem') := (7, heapSem [] A (gTrue)) :: ((tL2 A S R X C))
theorem tL3OK : COK Try.prog (look (tL3 stdA stdW stdR stdX stdC)) := COK_cons ok_known (tL2OK)

def gLaw4 (A : Alg) : List CV → List Blk → Option LR
  | args, [] => match ints [.u8, .u8, .u8, .u8] args with
    | some [x, y, u, v] => some ⟨[A.cmp .leq 0 x, A.cmp .lss x 256, A.cmp .leq 0 y, A.cmp .lss y 256, A.cmp .leq 0 u, A.cmp .lss u 256, A.cmp .leq 0 v, A.cmp .lss v 256], .c (.s (.bool true)), []⟩
    | _ => none
  | _, _ => none

theorem cIs_one {x y : Int} (h1 : 0 ≤ x) (h2 : x ≤ 63) (h3 : 0 ≤ y) (h4 : y ≤ 63) : cIs x y 1 = true := by
  simp only [cIs, Bool.and_eq_true, decide_eq_true_eq]
  exact ⟨⟨⟨⟨⟨⟨rfl, h1⟩, h3⟩, by omega⟩, by omega⟩, by omega⟩, by omega⟩

theorem com_one (x u : Int) : com x (x + 1) u (u + 1) = if x ≤ u then x + 1 - u else u + 1 - x := by
  unfold com
  by_cases h : x ≤ u
  · rw [if_pos h, Int.min_eq_left (by omega), Int.max_eq_right h]
  · rw [if_neg h, Int.min_eq_right (by omega), Int.max_eq_left (by omega)]

theorem bes_one {x y u v : Int} (h1 : 0 ≤ x) (h2 : x ≤ 63) (h3 : 0 ≤ y) (h4 : y ≤ 63) (h5 : 0 ≤ u) (h6 : u ≤ 63) (h7 : 0 ≤ v) (h8 : v ≤ 63) :
    cBes x y 1 u v 1 = decide ((u = x ∧ (v = y + 1 ∨ y = v + 1)) ∨ (v = y ∧ (u = x + 1 ∨ x = u + 1))) := by
  unfold cBes
  rw [cIs_one h1 h2 h3 h4, cIs_one h5 h6 h7 h8]
  rw [com_one, com_one, Bool.eq_iff_iff]
  simp only [Bool.true_and, Bool.or_eq_true, Bool.and_eq_true, decide_eq_true_eq]
  by_cases hx : x ≤ u <;> by_cases hy : y ≤ v
  · rw [if_pos hx, if_pos hy]; omega
  · rw [if_pos hx, if_neg hy]; omega
  · rw [if_neg hx, if_pos hy]; omega
  · rw [if_neg hx, if_neg hy]; omega

theorem beside_law (x y p q : Int) (x0 : 2 ≤ x) (x1 : x ≤ 61) (y0 : 2 ≤ y) (y1 : y ≤ 61) (p0 : -2 ≤ p) (p1 : p ≤ 1) (q0 : -2 ≤ q) (q1 : q ≤ 1) :
    (cBes x y 1 (x + p) (y + q) 1 == (stdBin .add .i64 (stdBin .mul .i64 p p) (stdBin .mul .i64 q q) == 1)) = true ∧ (cBes (x + p) (y + q) 1 x y 1 == cBes x y 1 (x + p) (y + q) 1) = true ∧ cBes x y 1 x y 1 = false := by
  have e : (stdBin .add .i64 (stdBin .mul .i64 p p) (stdBin .mul .i64 q q) == 1) = decide ((p = 0 ∧ (q = 1 ∨ q = -1)) ∨ (q = 0 ∧ (p = 1 ∨ p = -1))) := by
    have hp : p = -2 ∨ p = -1 ∨ p = 0 ∨ p = 1 := by omega
    have hq : q = -2 ∨ q = -1 ∨ q = 0 ∨ q = 1 := by omega
    rcases hp with rfl | rfl | rfl | rfl <;> rcases hq with rfl | rfl | rfl | rfl <;> decide
  rw [e, bes_one, bes_one, bes_one]
  · simp only [beq_iff_eq, decide_eq_decide, decide_eq_false_iff_not]
    omega
  all_goals omega

set_option maxHeartbeats 400000 in
theorem ok_beside : CallOK Try.prog 6 (heapSem [.v, .v, .v, .v] stdA (gLaw4 stdA)) := by
  refine callOK_heap (un := false) tok tL3OK mixed (fn := Try.f6) (by kernel_rfl) (by kernel_rfl) (by kernel_rfl) (by decide +kernel) ?_
  intro w Wr args bs r hg ho hWr A L k hA hL hk
  obtain ⟨C, hC⟩ : ∃ C, C = stdC := ⟨_, rfl⟩
  obtain ⟨R, hR⟩ : ∃ R, R = stdR := ⟨_, rfl⟩
  obtain ⟨S, hS⟩ : ∃ S, S = stdW := ⟨_, rfl⟩
  obtain ⟨X, hX⟩ : ∃ X, X = stdX := ⟨_, rfl⟩
  (try rw [← hC])
  (try rw [← hR])
  (try rw [← hS])
  (try rw [← hX])
  (try rw [← hA])
  unfold gLaw4 at hg
  split at hg
  rotate_left
  · cases hg
  split at hg
  rotate_left
  · cases hg
  rename_i x y u v hargs
  have hargs := ints_eq hargs
  simp only [List.zipWith_cons_cons, List.zipWith_nil_left] at hargs
  subst hargs
  simp only [Option.some.injEq] at hg
  subst hg
  have x0 := (ho_cons ho).1; replace ho := (ho_cons ho).2
  have x1 := (ho_cons ho).1; replace ho := (ho_cons ho).2
  have y0 := (ho_cons ho).1; replace ho := (ho_cons ho).2
  have y1 := (ho_cons ho).1; replace ho := (ho_cons ho).2
  have u0 := (ho_cons ho).1; replace ho := (ho_cons ho).2
  have u1 := (ho_cons ho).1; replace ho := (ho_cons ho).2
  have v0 := (ho_cons ho).1; replace ho := (ho_cons ho).2
  have v1 := (ho_cons ho).1; replace ho := (ho_cons ho).2
  clear ho
  simp only [stdA, stdCmp, decide_eq_true_eq] at x0 x1 y0 y1 u0 u1 v0 v1
  cbv
  refine hk _ _ (Good.pure rfl fun ρ => ?_)
  clear hk hL
  subst hA hC
  have m60 : ∀ z : Int, 0 ≤ z → z < 256 → stdBin .add .i64 (IntKind.i64.wrap (stdBin .rem .u8 z 60)) 2 = z % 60 + 2 := fun z h1 h2 => by
    simp only [stdBin, IntKind.wrap_i64]; rw [Int.tmod_eq_emod_of_nonneg h1]; omega
  have m4 : ∀ z : Int, 0 ≤ z → z < 256 → stdBin .sub .i64 (IntKind.i64.wrap (stdBin .rem .u8 z 4)) 2 = z % 4 - 2 := fun z h1 h2 => by
    simp only [stdBin, IntKind.wrap_i64]; rw [Int.tmod_eq_emod_of_nonneg h1]; omega
  have ad : ∀ a b a' b' : Int, a = a' → b = b' → 0 ≤ a' → a' < 256 → -256 ≤ b' → b' < 256 → stdBin .add .i64 a b = a + b := fun a b a' b' _ _ _ _ _ _ => by
    simp only [stdBin, IntKind.wrap_i64]; omega
  have key : ∀ a b p q c d : Int, a = x % 60 + 2 → b = y % 60 + 2 → p = u % 4 - 2 → q = v % 4 - 2 → c = a + p → d = b + q →
      (if (if (cBes a b 1 c d 1 == (stdBin .add .i64 (stdBin .mul .i64 p p) (stdBin .mul .i64 q q) == 1)) = true then (cBes c d 1 a b 1 == cBes a b 1 c d 1) else false) = true then (!cBes a b 1 a b 1) else false) = true := by
    intro a b p q c d ha hb hp hq hc hd
    have l := beside_law a b p q (by omega) (by omega) (by omega) (by omega) (by omega) (by omega) (by omega) (by omega)
    rw [hc, hd, if_pos, l.2.2]
    · rfl
    · rw [if_pos l.1]; exact l.2.1
  have ex := m60 x x0 x1
  have ey := m60 y y0 y1
  have eu := m4 u u0 u1
  have ev := m4 v v0 v1
  exact congrArg Value.bool (key _ _ _ _ _ _ ex ey eu ev (ad _ _ _ _ ex eu (by omega) (by omega) (by omega) (by omega)) (ad _ _ _ _ ey ev (by omega) (by omega) (by omega) (by omega)))
end Go.Eng
