
import Derived.Test.YtjjmpghdjoohfaaCXA
import Derived.Test.YtjjmpghdjoohfaaEngZA
set_option linter.all false
set_option exponentiation.threshold 3000
namespace Go.Eng
open Go.Proofs
set_option maxRecDepth 100000
set_option linter.all false
set_option exponentiation.threshold 3000
set_option maxHeartbeats 2000000
structure KnE (A : Alg) (H : SH) (E : SE) : Prop where
  p1 : H.all [H.at_ 0 0, H.at_ 2 0, H.at_ 0 2] = true
  g1 : E.good (H.at_ 0 0) (H.at_ 2 0) (H.at_ 0 2) = true
  p2 : H.all [H.at_ 0 0, H.at_ 0 2, H.at_ 2 0] = true
  g2 : E.good (H.at_ 0 0) (H.at_ 0 2) (H.at_ 2 0) = false
  p3 : H.all [H.at_ 2 0, H.at_ 0 2, H.at_ 0 0] = true
  s1 : E.acute (H.at_ 2 0) (H.at_ 0 2) (H.at_ 0 0) = true
  s2 : A.eqR (E.sharp (H.at_ 2 0) (H.at_ 0 2) (H.at_ 0 0)) (H.whole 1) = true
  s3 : E.acute (H.at_ 0 0) (H.at_ 2 0) (H.at_ 0 2) = false
  k1 : E.plOK (H.at_ 0 0) (H.at_ 2 0) (H.at_ 0 2) (H.at_ 1 1) = true
  l1 : E.place (H.at_ 0 0) (H.at_ 2 0) (H.at_ 0 2) (H.at_ 1 1) = 0
  k2 : E.plOK (H.at_ 0 0) (H.at_ 2 0) (H.at_ 0 2) (H.at_ 3 3) = true
  l2 : E.place (H.at_ 0 0) (H.at_ 2 0) (H.at_ 0 2) (H.at_ 3 3) = -1
  d1 : A.eqR (E.side (H.at_ 0 0) (H.at_ 2 0) (H.at_ 0 2) (H.at_ 2 0) (H.at_ 0 2)) (H.whole 8) = true
  a1 : A.eqR (H.cross (H.at_ 0 0) (H.at_ 2 0) (H.at_ 0 2)) (H.whole 4) = true
  e : ∀ n : Int, A.cmp .eql n n = true
  n0 : A.not false = true
  n1 : A.not true = false
  i : ∀ b, A.ite true b false = b
theorem kn_e (A : Alg) (hA : A = stdA) (H : SH) (hH : H = stdH) (E : SE) (hE : E = stdE) : KnE A H E := by
  subst hA hH hE
  refine ⟨?_, ?_, ?_, ?_, ?_, ?_, ?_, ?_, ?_, ?_, ?_, ?_, ?_, ?_, fun n => by show (n == n) = true; simp, rfl, rfl, fun b => rfl⟩ <;> decide +kernel
def tS1 (A : Alg) (H : SH) (E : SE) : List (Nat × Sem') := (11, heapSem [.v, .v] A (gAtP A H)) :: (17, heapSem [.v] A (gWholeH A H)) :: (14, heapSem [.v, .v, .v] A (gGood H E)) :: (15, heapSem [.v, .v, .v] A (gSharp H E)) :: (26, heapSem [.v, .v, .v, .v] A (gPlace E)) :: (27, heapSem [.v, .v, .v] A (gSides H E)) :: (28, heapSem [.v, .v, .v] A (gCrossP H)) :: ([])
theorem tS1OK : COK Try.prog (look (tS1 stdA stdH stdE)) := COK_cons ok_qat (COK_cons ok_rwhole (COK_cons ok_tgood (COK_cons ok_tsharp (COK_cons ok_tplace (COK_cons ok_tsides (COK_cons ok_tarea (COK_nil)))))))
theorem ok_known5 : CallOK Try.prog 13 (heapSem [] stdA (gKnown)) := by
  refine callOK_heap (un := ⟨false, some [0,1,2,3,4,5,6,7,8,9,10,11,12,13,14,15,16,17,18,19,20,21]⟩) tok tS1OK mixed (fn := Try.f13) (by kernel_rfl) (by kernel_rfl) (by kernel_rfl) (by decide +kernel) ?_
  intro w Wr args bs r hg ho hWr A L k hA hL hk
  obtain ⟨E, hE⟩ : ∃ E, E = stdE := ⟨_, rfl⟩
  obtain ⟨H, hH⟩ : ∃ H, H = stdH := ⟨_, rfl⟩
  (try rw [← hE])
  (try rw [← hH])
  (try rw [← hA])
  unfold gKnown at hg
  split at hg
  rotate_left
  · cases hg
  simp only [Option.some.injEq] at hg
  subst hg
  refine runF_body rfl ?_
  with_reducible refine run_seq_cut fun kk hn hx => ?_
  cbv
  repeat' first | (with_reducible intro hb; cbv) | with_reducible refine And.intro ?_ ?_
  all_goals first | (with_reducible refine hn _ ?_; clear hn hx kk) | ((try subst hA); (try subst hS); (try subst hR); (try subst hX); (try subst hC); (try subst hV); (try subst hT); (try subst hM); (try subst hF); (try subst hH); (try subst hK); (try subst hJ); (try subst hE); decide +kernel)
  with_reducible refine run_seq_cut fun kk hn hx => ?_
  cbv
  repeat' first | (with_reducible intro hb; cbv) | with_reducible refine And.intro ?_ ?_
  all_goals first | (with_reducible refine hn _ ?_; clear hn hx kk) | ((try subst hA); (try subst hS); (try subst hR); (try subst hX); (try subst hC); (try subst hV); (try subst hT); (try subst hM); (try subst hF); (try subst hH); (try subst hK); (try subst hJ); (try subst hE); decide +kernel)
  with_reducible refine run_seq_cut fun kk hn hx => ?_
  cbv
  repeat' first | (with_reducible intro hb; cbv) | with_reducible refine And.intro ?_ ?_
  all_goals first | (with_reducible refine hn _ ?_; clear hn hx kk) | ((try subst hA); (try subst hS); (try subst hR); (try subst hX); (try subst hC); (try subst hV); (try subst hT); (try subst hM); (try subst hF); (try subst hH); (try subst hK); (try subst hJ); (try subst hE); decide +kernel)
  with_reducible refine run_seq_cut fun kk hn hx => ?_
  cbv
  repeat' first | (with_reducible intro hb; cbv) | with_reducible refine And.intro ?_ ?_
  all_goals first | (with_reducible refine hn _ ?_; clear hn hx kk) | ((try subst hA); (try subst hS); (try subst hR); (try subst hX); (try subst hC); (try subst hV); (try subst hT); (try subst hM); (try subst hF); (try subst hH); (try subst hK); (try subst hJ); (try subst hE); decide +kernel)
  with_reducible refine run_seq_cut fun kk hn hx => ?_
  cbv
  repeat' first | (with_reducible intro hb; cbv) | with_reducible refine And.intro ?_ ?_
  all_goals first | (with_reducible refine hn _ ?_; clear hn hx kk) | ((try subst hA); (try subst hS); (try subst hR); (try subst hX); (try subst hC); (try subst hV); (try subst hT); (try subst hM); (try subst hF); (try subst hH); (try subst hK); (try subst hJ); (try subst hE); decide +kernel)
  with_reducible refine run_seq_cut fun kk hn hx => ?_
  cbv
  repeat' first | (with_reducible intro hb; cbv) | with_reducible refine And.intro ?_ ?_
  all_goals first | (with_reducible refine hn _ ?_; clear hn hx kk) | ((try subst hA); (try subst hS); (try subst hR); (try subst hX); (try subst hC); (try subst hV); (try subst hT); (try subst hM); (try subst hF); (try subst hH); (try subst hK); (try subst hJ); (try subst hE); decide +kernel)
  with_reducible refine run_seq_cut fun kk hn hx => ?_
  cbv
  repeat' first | (with_reducible intro hb; cbv) | with_reducible refine And.intro ?_ ?_
  all_goals first | (with_reducible refine hn _ ?_; clear hn hx kk) | ((try subst hA); (try subst hS); (try subst hR); (try subst hX); (try subst hC); (try subst hV); (try subst hT); (try subst hM); (try subst hF); (try subst hH); (try subst hK); (try subst hJ); (try subst hE); decide +kernel)
  with_reducible refine run_seq_cut fun kk hn hx => ?_
  cbv
  repeat' first | (with_reducible intro hb; cbv) | with_reducible refine And.intro ?_ ?_
  all_goals first | (with_reducible refine hn _ ?_; clear hn hx kk) | ((try subst hA); (try subst hS); (try subst hR); (try subst hX); (try subst hC); (try subst hV); (try subst hT); (try subst hM); (try subst hF); (try subst hH); (try subst hK); (try subst hJ); (try subst hE); decide +kernel)
  with_reducible refine run_seq_cut fun kk hn hx => ?_
  cbv
  repeat' first | (with_reducible intro hb; cbv) | with_reducible refine And.intro ?_ ?_
  all_goals first | (with_reducible refine hn _ ?_; clear hn hx kk) | ((try subst hA); (try subst hS); (try subst hR); (try subst hX); (try subst hC); (try subst hV); (try subst hT); (try subst hM); (try subst hF); (try subst hH); (try subst hK); (try subst hJ); (try subst hE); decide +kernel)
  with_reducible refine run_seq_cut fun kk hn hx => ?_
  cbv
  repeat' first | (with_reducible intro hb; cbv) | with_reducible refine And.intro ?_ ?_
  all_goals first | (with_reducible refine hn _ ?_; clear hn hx kk) | ((try subst hA); (try subst hS); (try subst hR); (try subst hX); (try subst hC); (try subst hV); (try subst hT); (try subst hM); (try subst hF); (try subst hH); (try subst hK); (try subst hJ); (try subst hE); decide +kernel)
  with_reducible refine run_seq_cut fun kk hn hx => ?_
  with_reducible refine Dr_run (hsp := by kernel_rfl) (by decide +kernel) ?_
  with_reducible refine Dr_cut 20 fun P hP => ?_
  cbv
  with_reducible refine hP _ ?_
  clear hP P
  with_reducible refine Dr_cut 20 fun P hP => ?_
  cbv
  with_reducible refine hP _ ?_
  clear hP P
  with_reducible refine Dr_cut 20 fun P hP => ?_
  cbv
  with_reducible refine hP _ ?_
  clear hP P
  with_reducible refine Dr_cut 10 fun P hP => ?_
  cbv
  with_reducible refine hP _ ?_
  clear hP P
  with_reducible refine Dr_end (by kernel_rfl) (by kernel_rfl) ?_
  have kn := kn_e A hA H hH E hE
  cbv
  repeat' with_reducible refine And.intro ?_ ?_
  all_goals first | (with_reducible refine hn _ ?_; clear hn hx kk) | (with_reducible refine impA hA ?_; (try subst hA); (try subst hS); (try subst hR); (try subst hX); (try subst hC); (try subst hV); (try subst hT); (try subst hM); (try subst hF); (try subst hH); (try subst hK); (try subst hJ); (try subst hE); decide +kernel)
  cbv
  refine hk _ _ (Good.pure rfl fun ρ => ?_)
  refine retB ?_
  simp only [kn.p1, kn.g1, kn.p2, kn.g2, kn.p3, kn.s1, kn.s2, kn.s3, kn.k1, kn.l1, kn.k2, kn.l2, kn.d1, kn.a1, kn.e, kn.n0, kn.n1, kn.i]
end Go.Eng

