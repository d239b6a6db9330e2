
import Derived.Test.YtjjmpghdjoohfaaGreatZLQ0
import Derived.Test.YtjjmpghdjoohfaaGreatSpecFA
set_option linter.all false
set_option exponentiation.threshold 3000
namespace Go.Eng
open Go.Proofs
set_option maxRecDepth 100000
set_option linter.all false
set_option exponentiation.threshold 3000
set_option maxHeartbeats 2000000
def gLT : List CV → List Blk → Option LR
  | [.g [.P a], .g [.P b], .g [.P c], .g [.P d], .g [.R x], .g [.R y]], [] => some ⟨[], .c (.s (.bool true)), []⟩
  | _, _ => none
def tP3 (A : Alg) (H : SH) (J : SJ) : List (Nat × Sem') := (9, heapSem [] A (gKnown)) :: (10, heapSem [.v, .v, .v] A (gOnP A H J)) :: (11, heapSem [.v, .v, .v] A (gOnP A H J)) :: (12, heapSem [.v, .v, .v, .v] A (gMeet H J)) :: (13, heapSem [.v, .v, .v, .v] A (gMeet H J)) :: (14, heapSem [.v, .v, .v] A (gYAt J)) :: (15, heapSem [.v, .v, .v] A (gYAt J)) :: (16, heapSem [.v, .v, .v] A (gXAt J)) :: (17, heapSem [.v, .v, .v] A (gXAt J)) :: ([])
theorem tP3OK : COK Tryz.prog (look (tP3 stdA stdH stdJ)) := COK_cons ok_known4 (COK_cons ok_lon (COK_cons ok_qOn (COK_cons ok_lmeet (COK_cons ok_qMeet (COK_cons ok_lyat (COK_cons ok_qyat (COK_cons ok_lxat (COK_cons ok_qxat (COK_nil)))))))))
theorem ok_lineTells : CallOK Tryz.prog 3 (heapSem [.v, .v, .v, .v, .v, .v] stdA (gLT)) := by
  refine callOK_heap (un := ⟨false, some [6,7,8,9,10,11,12,13,14,15,16,17,18,19,20,21,22,23,24,25,26,27,28,30]⟩) tok tP3OK mixed (fn := Tryz.f3) (by kernel_rfl) (by kernel_rfl) (by kernel_rfl) (by decide +kernel) ?_
  intro w Wr args bs r hg ho hWr A L k hA hL hk
  obtain ⟨H, hH⟩ : ∃ H, H = stdH := ⟨_, rfl⟩
  obtain ⟨J, hJ⟩ : ∃ J, J = stdJ := ⟨_, rfl⟩
  (try rw [← hH])
  (try rw [← hJ])
  (try rw [← hA])
  unfold gLT at hg
  split at hg
  rotate_left
  · cases hg
  simp only [Option.some.injEq] at hg
  subst hg
  rename_i a b c d x y
  have eq := eq_a A hA
  cbv
  repeat' first | (with_reducible intro hb; cbv) | with_reducible refine And.intro ?_ ?_
  · exfalso; subst hA; cases hb
  refine hk _ _ (Good.pure rfl fun ρ => ?_)
  refine retB ?_
  simp only [eq.b, eq.i, eq.r, eq.t]
end Go.Eng

