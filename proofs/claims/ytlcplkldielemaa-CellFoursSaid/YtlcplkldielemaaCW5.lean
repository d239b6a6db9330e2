/- Contracts: fractions, points. -/
import Derived.Test.YtlcplkldielemaaCW4
namespace Go.Eng
open Go.Proofs
set_option maxRecDepth 100000
set_option linter.all false
set_option exponentiation.threshold 3000

structure SR where
  easy : Wd → Wd → Bool
  ofOK : Int → Int → Bool
  of64 : Int → Int → Rt
  at64 : Int → Int → Pt

def stdR : SR where
  easy n d := decide (n.d.n < 2 ^ 64) && decide (d.d.n < 2 ^ 64) && decide (d.d.n ≠ 0) && !d.neg && stdW.isW n && decide (Nat.gcd n.d.n d.d.n = 1)
  ofOK n d := decide (0 < d) && decide (Nat.gcd n.natAbs d.natAbs = 1)
  of64 n d := ⟨stdW.from64 n, stdW.from64 d⟩
  at64 x y := ⟨⟨stdW.from64 x, stdW.from64 1⟩, ⟨stdW.from64 y, stdW.from64 1⟩⟩

def tC6 (A : Alg) (S : SW) : List (Nat × Sem') := (34, heapSem [.v, .v] A (gGcd S)) :: tC5 A S
theorem tC6OK : COK Try.prog (look (tC6 stdA stdW)) := COK_cons ok_gcd tC5OK

def gNew (R : SR) : List CV → List Blk → Option LR
  | [.g [.W n], .g [.W d]], [] => some ⟨[R.easy n d], .t [.g [.R ⟨n, d⟩], .s (.bool true)], []⟩
  | _, _ => none

set_option maxHeartbeats 400000
theorem ok_new : CallOK Try.prog 28 (heapSem [.v, .v] stdA (gNew stdR)) := by
  refine callOK_heap (un := ⟨false, none⟩) tok tC6OK mixed (fn := Try.f28) (by kernel_rfl) (by kernel_rfl) (by kernel_rfl) (by decide +kernel) ?_
  intro w Wr args bs r hg ho hWr A L k hA hL hk
  obtain ⟨S, hS⟩ : ∃ S, S = stdW := ⟨_, rfl⟩
  rw [← hS, ← hA]
  unfold gNew at hg
  split at hg
  · simp only [Option.some.injEq] at hg
    subst hg
    rename_i x y
    have hz := ho _ (List.mem_cons_self ..)
    clear ho
    simp only [stdR, Bool.and_eq_true, decide_eq_true_eq, Bool.not_eq_true'] at hz
    have z1 := hz.1.1.1.1.1
    have z2 := hz.1.1.1.1.2
    have z3 := hz.1.1.1.2
    have z4 := hz.1.1.2
    have z5 := hz.1.2
    have z6 := hz.2
    clear hz
    have c1 : stdA.cmp .eql (stdW.bits y) 0 = false := by
      show (((lenOf y.d.n : Nat) : Int) == 0) = false
      unfold lenOf
      rw [if_neg z3]
      simp only [beq_eq_false_iff_ne, ne_eq]; omega
    have c2 : stdA.cmp .gtr (stdW.bits x) 1023 = false := by
      show decide (((lenOf x.d.n : Nat) : Int) > 1023) = false
      have := lenOf_le _ _ z1
      simp only [decide_eq_false_iff_not]; omega
    have c3 : stdA.cmp .gtr (stdW.bits y) 1023 = false := by
      show decide (((lenOf y.d.n : Nat) : Int) > 1023) = false
      have := lenOf_le _ _ z2
      simp only [decide_eq_false_iff_not]; omega
    have c4 : stdW.isW y = true := by show (!y.neg || _) = true; rw [z4]; rfl
    have c5 : stdW.one (stdW.gcd x y) = true := by
      show decide (((Nat.gcd x.d.n y.d.n : Nat) : Int) = 1) = true
      rw [z6]; rfl
    cbv
    repeat' first | (with_reducible intro hb; cbv) | with_reducible refine And.intro ?_ ?_
    all_goals subst hS hA
    · exfalso
      rw [c1, c2, c3, z5, c4] at hb
      exact Bool.noConfusion hb
    · exact absurd ‹y.neg = true› (by rw [z4]; decide)
    · exact absurd ‹y.neg = true› (by rw [z4]; decide)
    · exact absurd ‹y.neg = true› (by rw [z4]; decide)
    · exact absurd ‹y.neg = true› (by rw [z4]; decide)
    · show decide (x.d.n < 2 ^ 64) = true
      exact decide_eq_true z1
    · show decide (y.d.n < 2 ^ 64) = true
      exact decide_eq_true z2
    · have hb : stdA.not (stdW.one (stdW.gcd x y)) = true := by assumption
      rw [c5] at hb; cases hb
    · exact hk _ _ (Good.pure rfl fun ρ => rfl)
  · cases hg
def gOfR (A : Alg) (R : SR) : List CV → List Blk → Option LR
  | [.s (.int .i64 n), .s (.int .i64 d)], [] => some ⟨[A.cmp .leq (-9223372036854775808) n, A.cmp .lss n 9223372036854775808, A.cmp .leq (-9223372036854775808) d, A.cmp .lss d 9223372036854775808, R.ofOK n d], .t [.g [.R (R.of64 n d)], .s (.bool true)], []⟩
  | _, _ => none

def tC7 (A : Alg) (S : SW) (R : SR) : List (Nat × Sem') := (28, heapSem [.v, .v] A (gNew R)) :: tC6 A S
theorem tC7OK : COK Try.prog (look (tC7 stdA stdW stdR)) := COK_cons ok_new tC6OK

theorem ok_ofR : CallOK Try.prog 26 (heapSem [.v, .v] stdA (gOfR stdA stdR)) := by
  refine callOK_heap (un := ⟨false, none⟩) tok tC7OK mixed (fn := Try.f26) (by kernel_rfl) (by kernel_rfl) (by kernel_rfl) (by decide +kernel) ?_
  intro w Wr args bs r hg ho hWr A L k hA hL hk
  obtain ⟨S, hS⟩ : ∃ S, S = stdW := ⟨_, rfl⟩
  obtain ⟨R, hR⟩ : ∃ R, R = stdR := ⟨_, rfl⟩
  rw [← hS, ← hR, ← hA]
  unfold gOfR at hg
  split at hg
  · simp only [Option.some.injEq] at hg
    subst hg
    rename_i x y
    have o1 : decide (-9223372036854775808 ≤ x) = true := ho _ (by simp [stdA, stdCmp])
    have o2 : decide (x < 9223372036854775808) = true := ho _ (by simp [stdA, stdCmp])
    have o3 : decide (-9223372036854775808 ≤ y) = true := ho _ (by simp [stdA, stdCmp])
    have o4 : decide (y < 9223372036854775808) = true := ho _ (by simp [stdA, stdCmp])
    have o5 : stdR.ofOK x y = true := ho _ (by simp)
    have o5' := o5
    simp only [stdR, Bool.and_eq_true, decide_eq_true_eq] at o5 o1 o2 o3 o4
    have z1 := o5.1
    have z2 := o5.2
    clear o5
    have ez : stdR.easy (stdW.from64 x) (stdW.from64 y) = true := by
      have e1 : (mk1024 x.natAbs).n = x.natAbs := mk1024_n _ (by omega)
      have e2 : (mk1024 y.natAbs).n = y.natAbs := mk1024_n _ (by omega)
      simp only [stdR, stdW, tld, e1, e2, z2, Bool.and_eq_true, decide_eq_true_eq]
      refine ⟨⟨⟨⟨⟨by omega, by omega⟩, by omega⟩, ?_⟩, ?_⟩, trivial⟩
      · rw [show decide (y < 0) = false from decide_eq_false (by omega)]; rfl
      · cases decide (x < 0) <;> cases decide (x.natAbs ≠ 0) <;> rfl
    cbv
    repeat' first | (with_reducible intro hb; cbv) | with_reducible refine And.intro ?_ ?_
    all_goals subst hS hR hA
    · exact decide_eq_true o1
    · exact decide_eq_true o2
    · exact decide_eq_true o3
    · exact decide_eq_true o4
    · exact ez
    · exact hk _ _ (Good.pure rfl fun ρ => rfl)
  · cases hg
def gAt (A : Alg) (R : SR) : List CV → List Blk → Option LR
  | [.s (.int .i64 x), .s (.int .i64 y)], [] => some ⟨[A.cmp .leq (-9223372036854775808) x, A.cmp .lss x 9223372036854775808, A.cmp .leq (-9223372036854775808) y, A.cmp .lss y 9223372036854775808], .c (.g [.P (R.at64 x y)]), []⟩
  | _, _ => none

def tC8 (A : Alg) (S : SW) (R : SR) : List (Nat × Sem') := (26, heapSem [.v, .v] A (gOfR A R)) :: tC7 A S R
theorem tC8OK : COK Try.prog (look (tC8 stdA stdW stdR)) := COK_cons ok_ofR tC7OK

theorem ofOK_one (x : Int) : stdR.ofOK x 1 = true := by
  simp only [stdR, Bool.and_eq_true, decide_eq_true_eq]
  exact ⟨by decide, Nat.gcd_one_right _⟩

theorem ok_at : CallOK Try.prog 23 (heapSem [.v, .v] stdA (gAt stdA stdR)) := by
  refine callOK_heap (un := ⟨false, none⟩) tok tC8OK mixed (fn := Try.f23) (by kernel_rfl) (by kernel_rfl) (by kernel_rfl) (by decide +kernel) ?_
  intro w Wr args bs r hg ho hWr A L k hA hL hk
  obtain ⟨S, hS⟩ : ∃ S, S = stdW := ⟨_, rfl⟩
  obtain ⟨R, hR⟩ : ∃ R, R = stdR := ⟨_, rfl⟩
  rw [← hS, ← hR, ← hA]
  unfold gAt at hg
  split at hg
  · simp only [Option.some.injEq] at hg
    subst hg
    rename_i x y
    have o1 : decide (-9223372036854775808 ≤ x) = true := ho _ (by simp [stdA, stdCmp])
    have o2 : decide (x < 9223372036854775808) = true := ho _ (by simp [stdA, stdCmp])
    have o3 : decide (-9223372036854775808 ≤ y) = true := ho _ (by simp [stdA, stdCmp])
    have o4 : decide (y < 9223372036854775808) = true := ho _ (by simp [stdA, stdCmp])
    cbv
    repeat' first | (with_reducible intro hb; cbv) | with_reducible refine And.intro ?_ ?_
    all_goals subst hS hR hA
    · exact o1
    · exact o2
    · rfl
    · rfl
    · exact ofOK_one x
    · exact o3
    · exact o4
    · rfl
    · rfl
    · exact ofOK_one y
    · exact hk _ _ (Good.pure rfl fun ρ => rfl)
  · cases hg
end Go.Eng
