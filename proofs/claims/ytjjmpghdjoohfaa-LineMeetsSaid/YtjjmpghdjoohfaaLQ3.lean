
import Derived.Test.YtjjmpghdjoohfaaLQ0
import Derived.Test.YtjjmpghdjoohfaaSpecLm
set_option linter.all false
set_option exponentiation.threshold 3000
namespace Go.Eng
open Go.Proofs
set_option maxRecDepth 100000
set_option linter.all false
set_option exponentiation.threshold 3000
set_option maxHeartbeats 2000000
def gL4 : List CV → List Blk → Option LR
  | [.g [.P a], .g [.P b], .g [.P c], .g [.P d]], [] => some ⟨[], .c (.s (.bool true)), []⟩
  | _, _ => none
def tPa (A : Alg) (H : SH) (J : SJ) : List (Nat × Sem') := (7, heapSem [] A (gKnown)) :: (8, heapSem [.v] A (gIsP H)) :: (9, heapSem [.v, .v, .v, .v] A (gMeet H J)) :: (10, heapSem [.v, .v, .v] A (gOnP A H J)) :: ([])
theorem tPaOK : COK Try.prog (look (tPa stdA stdH stdJ)) := COK_cons ok_known4 (COK_cons ok_qis (COK_cons ok_lmeet (COK_cons ok_lon (COK_nil))))
theorem ok_lineMeets : CallOK Try.prog 3 (heapSem [.v, .v, .v, .v] stdA (gL4)) := by
  refine callOK_heap (un := ⟨false, some [4,5,6,7,8,9,10,11,12,13,14,15,16,17,18,19,21,23,25,43,99]⟩) tok tPaOK mixed (fn := Try.f3) (by kernel_rfl) (by kernel_rfl) (by kernel_rfl) (by decide +kernel) ?_
  intro w Wr args bs r hg ho hWr A L k hA hL hk
  obtain ⟨H, hH⟩ : ∃ H, H = stdH := ⟨_, rfl⟩
  obtain ⟨J, hJ⟩ : ∃ J, J = stdJ := ⟨_, rfl⟩
  (try rw [← hH])
  (try rw [← hJ])
  (try rw [← hA])
  unfold gL4 at hg
  split at hg
  rotate_left
  · cases hg
  simp only [Option.some.injEq] at hg
  subst hg
  rename_i a b c d
  have lm := lm_f (a := a) (b := b) (c := c) (d := d) A hA H hH J hJ
  cbv
  repeat' first | (with_reducible intro hb; cbv) | with_reducible refine And.intro ?_ ?_
  · exfalso; subst hA; cases hb
  · exact hk _ _ (Good.pure rfl fun ρ => retT rfl)
  · rename_i h0
    have lm := lm h0
    refine hk _ _ (Good.pure rfl fun ρ => ?_)
    refine retB ?_
    simp only [lm.p1, lm.p2, lm.p3, lm.p4, lm.p5, lm.p6, lm.p7, lm.x, lm.m, lm.k1 hb, lm.l, lm.o, lm.t]
  · rename_i h0
    have lm := lm h0
    refine hk _ _ (Good.pure rfl fun ρ => ?_)
    refine retB ?_
    simp only [lm.p1, lm.p2, lm.p3, lm.p4, lm.p5, lm.p6, lm.p7, lm.x, lm.m, lm.k2 hb, lm.l, lm.o, lm.t]
end Go.Eng

