/- Contracts: whole numbers. -/
import Derived.Test.YtmajpppjakdodaaCellSA
import Derived.Test.YtmajpppjakdodaaCellT
namespace Go.Eng
open Go.Proofs
set_option maxRecDepth 100000
set_option linter.all false
set_option exponentiation.threshold 3000

def noC : Nat → Option Sem' := fun _ => none
theorem noCOK : COK Try.prog noC := fun _ _ h => by cases h

def gSize (S : SW) : List CV → List Blk → Option LR
  | [.s (.hp 0 0)], [.fix false [.D d]] => some ⟨[], .c (.s (.int .i64 (S.size d))), []⟩
  | _, _ => none

theorem ok_size : CallOK Try.prog 53 (heapSem [.pd] stdA (gSize stdW)) := by
  refine callOK_heap (un := ⟨false, none⟩) tok noCOK mixed (fn := Try.f53) (by kernel_rfl) (by kernel_rfl) (by kernel_rfl) (by decide +kernel) ?_
  intro w Wr args bs r hg ho hWr A L k hA hL hk
  unfold gSize at hg
  split at hg
  · simp only [Option.some.injEq] at hg
    subst hg
    rename_i d
    cbv
    refine hL _ _ _ (loop_rule (un := ⟨false, none⟩) tok noCOK mixed (fun n : Int => ⟨[(3, ⟨[], .c (.s (.int .i64 n))⟩), (2, ⟨[], .c (.s (.lit .i64 0))⟩), (0, ⟨[], .c (.s (.hp 0 0))⟩)], [(0, .fix false [.D d])], 1⟩)
      (fun n => 0 ≤ n ∧ n ≤ 32 ∧ d.n < 2 ^ (32 * n.toNat)) (fun n => n.toNat) 32 ⟨by omega, by omega, pow1024 ▸ d.lt⟩
      ⟨⟨⟨rfl, rfl, fun _ => rfl⟩, ⟨rfl, rfl, fun _ => rfl⟩, ⟨rfl, rfl, fun _ => rfl⟩, trivial⟩, ⟨⟨rfl, rfl, fun _ => rfl⟩, trivial⟩, rfl, rfl⟩ (fun _ i hi => hWr i hi) ?_)
    intro n ⟨h0, h32, hlt⟩ A' L' k' hA' hL' hnext hexit hret
    cbv
    repeat' first | (with_reducible intro hb; cbv) | with_reducible refine And.intro ?_ ?_
    · simp only [hA', stdA, stdCmp, stdBin, IntKind.wrap_i64, ofNat_cast, beq_true, Bool.or_eq_true, Bool.not_eq_true', decide_eq_true_eq, decide_eq_false_iff_not]; omega
    · simp only [hA', stdA, stdCmp, stdBin, IntKind.wrap_i64, ofNat_cast, beq_true, Bool.or_eq_true, Bool.not_eq_true', decide_eq_true_eq, decide_eq_false_iff_not]; omega
    · simp only [hA', stdA, stdCmp, stdBin, IntKind.wrap_i64, ofNat_cast, beq_true, Bool.or_eq_true, Bool.not_eq_true', decide_eq_true_eq, decide_eq_false_iff_not]; omega
    · simp only [hA', stdA, stdCmp, stdBin, IntKind.wrap_i64, ofNat_cast, beq_true, Bool.or_eq_true, Bool.not_eq_true', decide_eq_true_eq, decide_eq_false_iff_not]; omega
    · have hx : A'.bin .sub .i64 n 1 = n - 1 := by simp only [hA', stdA, stdBin, IntKind.wrap_i64]; omega
      simp only [hx] at hb ⊢
      simp only [hA', stdA, stdCmp] at hb
      split at hb
      · rename_i hn
        simp only [decide_eq_true_eq, beq_iff_eq, Int.natCast_eq_zero] at hn hb
        refine hnext _ (n - 1) ⟨by omega, by omega, ?_⟩ (by show (n - 1).toNat < n.toNat; omega) ⟨⟨⟨rfl, rfl, fun _ => rfl⟩, ⟨rfl, rfl, fun _ => rfl⟩, ⟨rfl, rfl, fun _ => rfl⟩, trivial⟩, ⟨⟨rfl, rfl, fun _ => rfl⟩, trivial⟩, rfl, rfl⟩
        exact (dig_zero_iff d _ (by rw [show (n - 1).toNat + 1 = n.toNat from by omega]; exact hlt)).1 hb
      · cases hb
    · apply hexit
      cbv
      refine hk _ _ (Good.pure rfl fun ρ => ?_)
      have hx : A'.bin .sub .i64 n 1 = n - 1 := by simp only [hA', stdA, stdBin, IntKind.wrap_i64]; omega
      simp only [hx] at hb
      simp only [hA', stdA, stdCmp] at hb
      show Value.int .i64 n = .int .i64 (dSize d : Int)
      rw [dSize_of (n := n.toNat) hlt]
      · congr 1; omega
      · split at hb
        · rename_i hn
          simp only [decide_eq_true_eq, beq_eq_false_iff_ne, ne_eq, Int.natCast_eq_zero] at hn hb
          right
          have := (dig_zero_iff d (n - 1).toNat (by rw [show (n - 1).toNat + 1 = n.toNat from by omega]; exact hlt))
          rw [show (n - 1).toNat = n.toNat - 1 from by omega] at this hb
          rw [this] at hb
          omega
        · rename_i hn
          simp only [decide_eq_true_eq] at hn
          left; omega
  · cases hg

def gCmp (S : SW) : List CV → List Blk → Option LR
  | [.s (.hp 0 0), .s (.hp 1 0)], [.fix false [.D d], .fix false [.D e]] => some ⟨[], .c (.s (.int .i64 (S.dcmp d e))), []⟩
  | _, _ => none
def gOf : List CV → List Blk → Option LR
  | [.g [.W w]], [] => some ⟨[], .c (.s (.hp 0 0)), [.fix true [.D w.d]]⟩
  | _, _ => none

theorem ok_of : CallOK Try.prog 52 (heapSem [.v] stdA gOf) := by
  refine callOK_heap (un := ⟨false, none⟩) tok noCOK mixed (fn := Try.f52) (by kernel_rfl) (by kernel_rfl) (by kernel_rfl) (by decide +kernel) ?_
  intro w Wr args bs r hg ho hWr A L k hA hL hk
  unfold gOf at hg
  split at hg
  · simp only [Option.some.injEq] at hg
    subst hg
    cbv
    refine hk _ _ ⟨[1], rfl, by simp, by simp, fun ρ => rfl, fun i t b ht hb => ?_⟩
    cases i with
    | zero => simp at ht hb; subst ht hb; exact ⟨_, rfl, rfl, rfl, fun _ => rfl⟩
    | succ i => simp at ht
  · cases hg

theorem ok_cmp : CallOK Try.prog 59 (heapSem [.pd, .pd] stdA (gCmp stdW)) := by
  refine callOK_heap (un := ⟨false, none⟩) tok noCOK mixed (fn := Try.f59) (by kernel_rfl) (by kernel_rfl) (by kernel_rfl) (by decide +kernel) ?_
  intro w Wr args bs r hg ho hWr A L k hA hL hk
  unfold gCmp at hg
  split at hg
  · simp only [Option.some.injEq] at hg
    subst hg
    rename_i d e
    cbv
    refine hL _ _ _ (loop_rule (un := ⟨false, none⟩) tok noCOK mixed (fun n : Int => ⟨[(5, ⟨[], .c (.s (.int .i64 n))⟩), (4, ⟨[], .c (.s (.lit .i64 0))⟩), (0, ⟨[], .c (.s (.hp 0 0))⟩), (1, ⟨[], .c (.s (.hp 1 0))⟩)], [(0, .fix false [.D d]), (1, .fix false [.D e])], 2⟩)
      (fun n => -1 ≤ n ∧ n ≤ 31 ∧ sameFrom d e (n + 1).toNat) (fun n => (n + 1).toNat) 31 ?_ ?_ (fun _ i hi => hWr i hi) ?_)
    · exact ⟨by omega, by omega, sameFrom_top d e⟩
    · exact ⟨⟨⟨rfl, rfl, fun _ => rfl⟩, ⟨rfl, rfl, fun _ => rfl⟩, ⟨rfl, rfl, fun _ => rfl⟩, ⟨rfl, rfl, fun _ => rfl⟩, trivial⟩, ⟨⟨rfl, rfl, fun _ => rfl⟩, ⟨rfl, rfl, fun _ => rfl⟩, trivial⟩, rfl, rfl⟩
    intro n ⟨h0, h32, hlt⟩ A' L' k' hA' hL' hnext hexit hret
    cbv
    repeat' first | (with_reducible intro hb; cbv) | with_reducible refine And.intro ?_ ?_
    all_goals try (clear hexit hnext hret hk hL hL'; subst hA'; simp only [stdA, stdCmp, stdBin, IntKind.wrap_i64, ofNat_cast, decide_eq_true_eq, decide_eq_false_iff_not] at *; omega)
    · apply hret
      cbv
      refine hk _ _ (Good.pure rfl fun ρ => ?_)
      rename_i hb0
      simp only [hA', stdA, stdCmp, decide_eq_true_eq] at hb hb0
      show Value.int .i64 (-1) = .int .i64 (sgn d.n e.n)
      have := sameFrom_lt (d := d) (e := e) (n := n.toNat) (by rw [show n.toNat + 1 = (n + 1).toNat from by omega]; exact hlt) (by omega)
      unfold sgn
      rw [if_pos (by omega)]
    · apply hret
      cbv
      refine hk _ _ (Good.pure rfl fun ρ => ?_)
      rename_i hb1 hb0
      simp only [hA', stdA, stdCmp, decide_eq_true_eq] at hb hb0 hb1
      show Value.int .i64 1 = .int .i64 (sgn d.n e.n)
      have := sameFrom_lt (d := e) (e := d) (n := n.toNat) (by rw [show n.toNat + 1 = (n + 1).toNat from by omega]; exact hlt.symm) (by omega)
      unfold sgn
      rw [if_neg (by omega), if_pos (by omega)]
    · rename_i hb1 hb0
      simp only [hA', stdA, stdCmp, decide_eq_true_eq, decide_eq_false_iff_not] at hb hb0 hb1
      have hx : A'.bin .sub .i64 n 1 = n - 1 := by simp only [hA', stdA, stdBin, IntKind.wrap_i64]; omega
      simp only [hx]
      refine hnext _ (n - 1) ?_ ?_ ?_
      · refine ⟨by omega, by omega, ?_⟩
        rw [show (n - 1 + 1).toNat = n.toNat from by omega]
        exact sameFrom_eq (by rw [show n.toNat + 1 = (n + 1).toNat from by omega]; exact hlt) (by omega)
      · show (n - 1 + 1).toNat < (n + 1).toNat; omega
      · exact ⟨⟨⟨rfl, rfl, fun _ => rfl⟩, ⟨rfl, rfl, fun _ => rfl⟩, ⟨rfl, rfl, fun _ => rfl⟩, ⟨rfl, rfl, fun _ => rfl⟩, trivial⟩, ⟨⟨rfl, rfl, fun _ => rfl⟩, ⟨rfl, rfl, fun _ => rfl⟩, trivial⟩, rfl, rfl⟩
    · apply hexit
      cbv
      refine hk _ _ (Good.pure rfl fun ρ => ?_)
      simp only [hA', stdA, stdCmp, decide_eq_false_iff_not] at hb
      show Value.int .i64 0 = .int .i64 (sgn d.n e.n)
      have := sameFrom_zero (d := d) (e := e) (by rw [show (n + 1).toNat = 0 from by omega] at hlt; exact hlt)
      unfold sgn
      rw [if_neg (by omega), if_neg (by omega)]
  · cases hg
end Go.Eng
