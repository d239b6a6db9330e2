/- Contracts: whole numbers, second part. -/
import Derived.Test.YtmajpppjakdodaaCW1
namespace Go.Eng
open Go.Proofs
set_option maxRecDepth 100000
set_option linter.all false
set_option exponentiation.threshold 3000

def tC1 (A : Alg) (S : SW) : List (Nat × Sem') := [(52, heapSem [.v] A gOf), (53, heapSem [.pd] A (gSize S)), (59, heapSem [.pd, .pd] A (gCmp S))]
theorem tC1OK : COK Try.prog (look (tC1 stdA stdW)) := COK_cons ok_of (COK_cons ok_size (COK_cons ok_cmp COK_nil))

theorem dSize_pos (d : Dg) : 0 < dSize d ↔ d.n ≠ 0 := by
  unfold dSize
  split
  · rename_i h; simp [h]
  · rename_i h; simp [h]

def gTold (S : SW) : List CV → List Blk → Option LR
  | [.s (.bool b), .s (.hp 0 0)], [.fix false [.D d]] => some ⟨[], .c (.g [.W (S.told b d)]), []⟩
  | _, _ => none
def gIs (S : SW) : List CV → List Blk → Option LR
  | [.g [.W w]], [] => some ⟨[], .c (.s (.bool (S.isW w))), []⟩
  | _, _ => none
def gBelow (S : SW) : List CV → List Blk → Option LR
  | [.g [.W w]], [] => some ⟨[], .c (.s (.bool (S.below w))), []⟩
  | _, _ => none

theorem ok_told : CallOK Try.prog 56 (heapSem [.v, .pd] stdA (gTold stdW)) := by
  refine callOK_heap (un := ⟨false, none⟩) tok tC1OK mixed (fn := Try.f56) (by kernel_rfl) (by kernel_rfl) (by kernel_rfl) (by decide +kernel) ?_
  intro w Wr args bs r hg ho hWr A L k hA hL hk
  obtain ⟨S, hS⟩ : ∃ S, S = stdW := ⟨_, rfl⟩
  rw [← hS, ← hA]
  unfold gTold at hg
  split at hg
  · simp only [Option.some.injEq] at hg
    subst hg
    rename_i b d
    cbv
    refine hk _ _ (Good.pure rfl fun ρ => ?_)
    subst hS hA
    show Value.agg (flats ρ [.W ⟨if b = true then decide ((dSize d : Int) > 0) else false, d⟩]).toArray = .agg (flats ρ [.W (tld b d)]).toArray
    have h1 : decide ((dSize d : Int) > 0) = decide (d.n ≠ 0) := by have := dSize_pos d; simp only [decide_eq_decide]; omega
    rw [h1]
    cases b <;> rfl
  · cases hg

theorem ok_is : CallOK Try.prog 14 (heapSem [.v] stdA (gIs stdW)) := by
  refine callOK_heap (un := ⟨false, none⟩) tok tC1OK mixed (fn := Try.f14) (by kernel_rfl) (by kernel_rfl) (by kernel_rfl) (by decide +kernel) ?_
  intro w Wr args bs r hg ho hWr A L k hA hL hk
  obtain ⟨S, hS⟩ : ∃ S, S = stdW := ⟨_, rfl⟩
  rw [← hS, ← hA]
  unfold gIs at hg
  split at hg
  · simp only [Option.some.injEq] at hg
    subst hg
    rename_i x
    cbv
    repeat' first | (with_reducible intro hb; cbv) | with_reducible refine And.intro ?_ ?_
    all_goals refine hk _ _ (Good.pure rfl fun ρ => ?_)
    all_goals subst hS hA
    all_goals have h1 : decide ((dSize x.d : Int) > 0) = decide (x.d.n ≠ 0) := by have := dSize_pos x.d; simp only [decide_eq_decide]; omega
    · show Value.bool true = .bool (!x.neg || decide (x.d.n ≠ 0))
      have hb : (!x.neg) = true := hb
      rw [hb]; rfl
    · show Value.bool (decide ((dSize x.d : Int) > 0)) = .bool (!x.neg || decide (x.d.n ≠ 0))
      have hb : (!x.neg) = false := hb
      rw [hb, h1]; rfl
  · cases hg

theorem ok_below : CallOK Try.prog 57 (heapSem [.v] stdA (gBelow stdW)) := by
  refine callOK_heap (un := ⟨false, none⟩) tok tC1OK mixed (fn := Try.f57) (by kernel_rfl) (by kernel_rfl) (by kernel_rfl) (by decide +kernel) ?_
  intro w Wr args bs r hg ho hWr A L k hA hL hk
  obtain ⟨S, hS⟩ : ∃ S, S = stdW := ⟨_, rfl⟩
  rw [← hS, ← hA]
  unfold gBelow at hg
  split at hg
  · simp only [Option.some.injEq] at hg
    subst hg
    rename_i x
    cbv
    repeat' first | (with_reducible intro hb; cbv) | with_reducible refine And.intro ?_ ?_
    all_goals refine hk _ _ (Good.pure rfl fun ρ => ?_)
    all_goals subst hS hA
    all_goals have h1 : decide ((dSize x.d : Int) > 0) = decide (x.d.n ≠ 0) := by have := dSize_pos x.d; simp only [decide_eq_decide]; omega
    · show Value.bool (decide ((dSize x.d : Int) > 0)) = .bool (x.neg && decide (x.d.n ≠ 0))
      have hb : x.neg = true := hb
      rw [hb, h1]; rfl
    · show Value.bool false = .bool (x.neg && decide (x.d.n ≠ 0))
      have hb : x.neg = false := hb
      rw [hb]; rfl
  · cases hg
end Go.Eng
