/- Contracts: whole numbers, Add, Sub, Int. -/
import Derived.Test.YtmajpppjakdodaaCN1
import Derived.Test.YtmajpppjakdodaaSpecNA
namespace Go.Eng
open Go.Proofs
set_option maxRecDepth 100000
set_option linter.all false
set_option exponentiation.threshold 3000

def gAdd (V : SV) : List CV → List Blk → Option LR
  | [.g [.W x], .g [.W y]], [] => some ⟨[], .t [.g [.W (V.add x y)], .s (.bool (V.addOK x y))], []⟩
  | _, _ => none

theorem ok_wadd : CallOK Try.prog 17 (heapSem [.v, .v] stdA (gAdd stdV)) := by
  refine callOK_heap (un := ⟨false, none⟩) tok tN3OK mixed (fn := Try.f17) (by kernel_rfl) (by kernel_rfl) (by kernel_rfl) (by decide +kernel) ?_
  intro w Wr args bs r hg ho hWr A L k hA hL hk
  obtain ⟨S, hS⟩ : ∃ S, S = stdW := ⟨_, rfl⟩
  obtain ⟨V, hV⟩ : ∃ V, V = stdV := ⟨_, rfl⟩
  (try rw [← hS])
  (try rw [← hV])
  (try rw [← hA])
  unfold gAdd at hg
  split at hg
  rotate_left
  · cases hg
  simp only [Option.some.injEq] at hg
  subst hg
  rename_i x y
  have hz := add_eq x y
  cbv
  repeat' first | (with_reducible intro hb; cbv) | with_reducible refine And.intro ?_ ?_
  · have hb0 : A.8 (S.5 x) (S.5 y) = true := by assumption
    have hb1 : A.4 (V.9 x.d y.d) = true := by assumption
    refine hk _ _ (Good.pure rfl fun ρ => ?_)
    subst hA hV hS
    have hb0 : (wbelow x == wbelow y) = true := hb0
    have hb1 : (!stdV.plusOK x.d y.d) = true := hb1
    rw [Bool.not_eq_true'] at hb1
    refine tupWt ?_ ?_
    · refine Eq.trans ?_ hz.1.symm
      rw [hb0, hb1]; rfl
    · refine Eq.trans ?_ hz.2.symm
      rw [hb0, hb1]; rfl
  · have hb0 : A.8 (S.5 x) (S.5 y) = true := by assumption
    have hb1 : A.4 (V.9 x.d y.d) = false := by assumption
    refine hk _ _ (Good.pure rfl fun ρ => ?_)
    subst hA hV hS
    have hb0 : (wbelow x == wbelow y) = true := hb0
    have hb1 : (!stdV.plusOK x.d y.d) = false := hb1
    rw [Bool.not_eq_false'] at hb1
    refine tupWt ?_ ?_
    · refine Eq.trans ?_ hz.1.symm
      rw [hb0, hb1]; rfl
    · refine Eq.trans ?_ hz.2.symm
      rw [hb0, hb1]; rfl
  · subst hA hV hS
    have hb : decide (sgn x.d.n y.d.n ≥ 0) = true := by assumption
    simp only [decide_eq_true_eq] at hb
    show decide (y.d.n ≤ x.d.n) = true
    simp only [sgn] at hb
    simp only [decide_eq_true_eq]
    split at hb <;> omega
  · have hb0 : A.2 .geq (S.2 x.d y.d) 0 = true := by assumption
    have hb1 : A.8 (S.5 x) (S.5 y) = false := by assumption
    refine hk _ _ (Good.pure rfl fun ρ => ?_)
    subst hA hV hS
    have hb0 : decide (sgn x.d.n y.d.n ≥ 0) = true := hb0
    have hb1 : (wbelow x == wbelow y) = false := hb1
    refine tupWt ?_ ?_
    · refine Eq.trans ?_ hz.1.symm
      rw [hb1, hb0]; rfl
    · refine Eq.trans ?_ hz.2.symm
      rw [hb1]; rfl
  · subst hA hV hS
    have hb : decide (sgn x.d.n y.d.n ≥ 0) = false := by assumption
    simp only [decide_eq_false_iff_not] at hb
    show decide (x.d.n ≤ y.d.n) = true
    simp only [sgn] at hb
    simp only [decide_eq_true_eq]
    split at hb <;> omega
  · have hb0 : A.2 .geq (S.2 x.d y.d) 0 = false := by assumption
    have hb1 : A.8 (S.5 x) (S.5 y) = false := by assumption
    refine hk _ _ (Good.pure rfl fun ρ => ?_)
    subst hA hV hS
    have hb0 : decide (sgn x.d.n y.d.n ≥ 0) = false := hb0
    have hb1 : (wbelow x == wbelow y) = false := hb1
    refine tupWt ?_ ?_
    · refine Eq.trans ?_ hz.1.symm
      rw [hb1, hb0]; rfl
    · refine Eq.trans ?_ hz.2.symm
      rw [hb1]; rfl

def tN4 (A : Alg) (S : SW) (V : SV) : List (Nat × Sem') := (17, heapSem [.v, .v] A (gAdd V)) :: ((tN3 A S V))
theorem tN4OK : COK Try.prog (look (tN4 stdA stdW stdV)) := COK_cons ok_wadd (tN3OK)

def gSub (V : SV) : List CV → List Blk → Option LR
  | [.g [.W x], .g [.W y]], [] => some ⟨[], .t [.g [.W (V.sub x y)], .s (.bool (V.subOK x y))], []⟩
  | _, _ => none

theorem ok_wsub : CallOK Try.prog 25 (heapSem [.v, .v] stdA (gSub stdV)) := by
  refine callOK_heap (un := ⟨false, none⟩) tok tN4OK mixed (fn := Try.f25) (by kernel_rfl) (by kernel_rfl) (by kernel_rfl) (by decide +kernel) ?_
  intro w Wr args bs r hg ho hWr A L k hA hL hk
  obtain ⟨S, hS⟩ : ∃ S, S = stdW := ⟨_, rfl⟩
  obtain ⟨V, hV⟩ : ∃ V, V = stdV := ⟨_, rfl⟩
  (try rw [← hS])
  (try rw [← hV])
  (try rw [← hA])
  unfold gSub at hg
  split at hg
  rotate_left
  · cases hg
  simp only [Option.some.injEq] at hg
  subst hg
  rename_i x y
  have hz := sub_eq x y
  cbv
  repeat' first | (with_reducible intro hb; cbv) | with_reducible refine And.intro ?_ ?_
  refine hk _ _ (Good.pure rfl fun ρ => ?_)
  subst hA hV hS
  exact tupW hz.1.symm hz.2.symm

def tN5 (A : Alg) (S : SW) (V : SV) : List (Nat × Sem') := (25, heapSem [.v, .v] A (gSub V)) :: ((tN4 A S V))
theorem tN5OK : COK Try.prog (look (tN5 stdA stdW stdV)) := COK_cons ok_wsub (tN4OK)

def gInt (V : SV) : List CV → List Blk → Option LR
  | [.g [.W x]], [] => some ⟨[], .t [.s (.int .i64 (V.toInt x)), .s (.bool (V.isInt x))], []⟩
  | _, _ => none

theorem ok_wint : CallOK Try.prog 31 (heapSem [.v] stdA (gInt stdV)) := by
  refine callOK_heap (un := ⟨false, none⟩) tok tN5OK mixed (fn := Try.f31) (by kernel_rfl) (by kernel_rfl) (by kernel_rfl) (by decide +kernel) ?_
  intro w Wr args bs r hg ho hWr A L k hA hL hk
  obtain ⟨S, hS⟩ : ∃ S, S = stdW := ⟨_, rfl⟩
  obtain ⟨V, hV⟩ : ∃ V, V = stdV := ⟨_, rfl⟩
  (try rw [← hS])
  (try rw [← hV])
  (try rw [← hA])
  unfold gInt at hg
  split at hg
  rotate_left
  · cases hg
  simp only [Option.some.injEq] at hg
  subst hg
  rename_i x
  have hz := int_plain x _ (fun h => to_u64 x.d h)
  cbv
  repeat' first | (with_reducible intro hb; cbv) | with_reducible refine And.intro ?_ ?_
  · refine hk _ _ (Good.pure rfl fun ρ => ?_)
    subst hA hV hS
    exact tupLbt (hz.1 hb).1.symm (hz.1 hb).2.symm
  · rename_i hb0
    refine hk _ _ (Good.pure rfl fun ρ => ?_)
    subst hA hV hS
    exact tupIbt ((hz.2 hb0).1 hb).1 ((hz.2 hb0).1 hb).2.symm
  · rename_i hb0
    refine hk _ _ (Good.pure rfl fun ρ => ?_)
    subst hA hV hS
    exact tupIbt ((hz.2 hb0).2 hb).1 ((hz.2 hb0).2 hb).2.symm

def tN6 (A : Alg) (S : SW) (V : SV) : List (Nat × Sem') := (31, heapSem [.v] A (gInt V)) :: ((tN5 A S V))
theorem tN6OK : COK Try.prog (look (tN6 stdA stdW stdV)) := COK_cons ok_wint (tN5OK)

end Go.Eng
