
import Derived.Test.YtjjmpghdjoohfaaGreatZLR0
import Derived.Test.YtjjmpghdjoohfaaGreatSpecFA
set_option linter.all false
set_option exponentiation.threshold 3000
namespace Go.Eng
open Go.Proofs
set_option maxRecDepth 100000
set_option linter.all false
set_option exponentiation.threshold 3000
set_option maxHeartbeats 2000000
def gTT : List CV → List Blk → Option LR
  | [.g [.P a], .g [.P b], .g [.P c], .g [.P p]], [] => some ⟨[], .c (.s (.bool true)), []⟩
  | _, _ => none
def tS3 (A : Alg) (H : SH) (E : SE) : List (Nat × Sem') := (21, heapSem [] A (gKnown)) :: (22, heapSem [.v, .v, .v] A (gCrossP H)) :: (23, heapSem [.v, .v, .v] A (gCrossP H)) :: (24, heapSem [.v, .v, .v, .v] A (gPlace E)) :: (25, heapSem [.v, .v, .v, .v] A (gPlace E)) :: (26, heapSem [.v, .v, .v] A (gSharp H E)) :: (27, heapSem [.v, .v, .v] A (gSharp H E)) :: (28, heapSem [.v, .v, .v] A (gSides H E)) :: (29, heapSem [.v, .v, .v] A (gSides H E)) :: (30, heapSem [.v, .v, .v] A (gGood H E)) :: (31, heapSem [.v, .v, .v] A (gGood H E)) :: ([])
theorem tS3OK : COK Tryz.prog (look (tS3 stdA stdH stdE)) := COK_cons ok_known5 (COK_cons ok_tarea (COK_cons ok_qcross (COK_cons ok_tplace (COK_cons ok_qplace (COK_cons ok_tsharp (COK_cons ok_qsharp (COK_cons ok_tsides (COK_cons ok_qsides (COK_cons ok_tgood (COK_cons ok_qgood (COK_nil)))))))))))
theorem ok_triTells : CallOK Tryz.prog 5 (heapSem [.v, .v, .v, .v] stdA (gTT)) := by
  refine callOK_heap (un := ⟨false, some [4,5,6,7,8,9,10,11,12,13,14,15,16,17,18,19,20,21,22,23,24,25,26,27,28,29,30,32]⟩) tok tS3OK mixed (fn := Tryz.f5) (by kernel_rfl) (by kernel_rfl) (by kernel_rfl) (by decide +kernel) ?_
  intro w Wr args bs r hg ho hWr A L k hA hL hk
  obtain ⟨E, hE⟩ : ∃ E, E = stdE := ⟨_, rfl⟩
  obtain ⟨H, hH⟩ : ∃ H, H = stdH := ⟨_, rfl⟩
  (try rw [← hE])
  (try rw [← hH])
  (try rw [← hA])
  unfold gTT at hg
  split at hg
  rotate_left
  · cases hg
  simp only [Option.some.injEq] at hg
  subst hg
  rename_i a b c p
  have eq := eq_a A hA
  cbv
  repeat' first | ((with_reducible intro hb); cbv) | with_reducible refine And.intro ?_ ?_
  · exfalso; subst hA; cases hb
  · refine hk _ _ (Good.pure rfl fun ρ => ?_)
    refine retB ?_
    simp only [eq.b, eq.i, eq.r, eq.p, eq.t, eq.an]
end Go.Eng

