/- Contract: what is known of whole numbers. -/
import Derived.Test.YtmajpppjakdodaaCN16
namespace Go.Eng
open Go.Proofs
set_option maxRecDepth 100000
set_option linter.all false
set_option exponentiation.threshold 3000
set_option maxHeartbeats 4000000

def gTrue1 : List CV → List Blk → Option LR
  | [], [] => some ⟨[], .c (.s (.bool true)), []⟩
  | _, _ => none

theorem ok_known1 : CallOK Try.prog 13 (heapSem [] stdA (gTrue1)) := by
  refine callOK_heap (un := ⟨false, some [0,1,2,3,4,5,6,7,8,9,10,11,12,13,14,15,16,17,18,19,20]⟩) tok tN20OK mixed (fn := Try.f13) (by kernel_rfl) (by kernel_rfl) (by kernel_rfl) (by decide +kernel) ?_
  intro w Wr args bs r hg ho hWr A L k hA hL hk
  obtain ⟨S, hS⟩ : ∃ S, S = stdW := ⟨_, rfl⟩
  obtain ⟨T, hT⟩ : ∃ T, T = stdT := ⟨_, rfl⟩
  obtain ⟨V, hV⟩ : ∃ V, V = stdV := ⟨_, rfl⟩
  (try rw [← hS])
  (try rw [← hT])
  (try rw [← hV])
  (try rw [← hA])
  unfold gTrue1 at hg
  split at hg
  rotate_left
  · cases hg
  simp only [Option.some.injEq] at hg
  subst hg
  refine runF_body rfl ?_
  with_reducible refine run_seq_cut fun kk hn hx => ?_
  cbv
  repeat' first | (with_reducible intro hb; cbv) | with_reducible refine And.intro ?_ ?_
  all_goals first | (with_reducible refine hn _ ?_; clear hn hx kk) | ((try subst hA); (try subst hS); (try subst hR); (try subst hX); (try subst hC); (try subst hV); (try subst hT); decide +kernel)
  with_reducible refine run_seq_cut fun kk hn hx => ?_
  cbv
  repeat' first | (with_reducible intro hb; cbv) | with_reducible refine And.intro ?_ ?_
  all_goals first | (with_reducible refine hn _ ?_; clear hn hx kk) | ((try subst hA); (try subst hS); (try subst hR); (try subst hX); (try subst hC); (try subst hV); (try subst hT); decide +kernel)
  with_reducible refine run_seq_cut fun kk hn hx => ?_
  cbv
  repeat' first | (with_reducible intro hb; cbv) | with_reducible refine And.intro ?_ ?_
  all_goals first | (with_reducible refine hn _ ?_; clear hn hx kk) | ((try subst hA); (try subst hS); (try subst hR); (try subst hX); (try subst hC); (try subst hV); (try subst hT); decide +kernel)
  with_reducible refine run_seq_cut fun kk hn hx => ?_
  cbv
  repeat' first | (with_reducible intro hb; cbv) | with_reducible refine And.intro ?_ ?_
  all_goals first | (with_reducible refine hn _ ?_; clear hn hx kk) | ((try subst hA); (try subst hS); (try subst hR); (try subst hX); (try subst hC); (try subst hV); (try subst hT); decide +kernel)
  with_reducible refine run_seq_cut fun kk hn hx => ?_
  cbv
  repeat' first | (with_reducible intro hb; cbv) | with_reducible refine And.intro ?_ ?_
  all_goals first | (with_reducible refine hn _ ?_; clear hn hx kk) | ((try subst hA); (try subst hS); (try subst hR); (try subst hX); (try subst hC); (try subst hV); (try subst hT); decide +kernel)
  with_reducible refine run_seq_cut fun kk hn hx => ?_
  cbv
  repeat' first | (with_reducible intro hb; cbv) | with_reducible refine And.intro ?_ ?_
  all_goals first | (with_reducible refine hn _ ?_; clear hn hx kk) | ((try subst hA); (try subst hS); (try subst hR); (try subst hX); (try subst hC); (try subst hV); (try subst hT); decide +kernel)
  with_reducible refine run_seq_cut fun kk hn hx => ?_
  cbv
  repeat' first | (with_reducible intro hb; cbv) | with_reducible refine And.intro ?_ ?_
  all_goals first | (with_reducible refine hn _ ?_; clear hn hx kk) | ((try subst hA); (try subst hS); (try subst hR); (try subst hX); (try subst hC); (try subst hV); (try subst hT); decide +kernel)
  with_reducible refine run_seq_cut fun kk hn hx => ?_
  cbv
  repeat' first | (with_reducible intro hb; cbv) | with_reducible refine And.intro ?_ ?_
  all_goals first | (with_reducible refine hn _ ?_; clear hn hx kk) | ((try subst hA); (try subst hS); (try subst hR); (try subst hX); (try subst hC); (try subst hV); (try subst hT); decide +kernel)
  with_reducible refine run_seq_cut fun kk hn hx => ?_
  cbv
  repeat' first | (with_reducible intro hb; cbv) | with_reducible refine And.intro ?_ ?_
  all_goals first | (with_reducible refine hn _ ?_; clear hn hx kk) | ((try subst hA); (try subst hS); (try subst hR); (try subst hX); (try subst hC); (try subst hV); (try subst hT); decide +kernel)
  with_reducible refine run_seq_cut fun kk hn hx => ?_
  cbv
  repeat' first | (with_reducible intro hb; cbv) | with_reducible refine And.intro ?_ ?_
  all_goals first | (with_reducible refine hn _ ?_; clear hn hx kk) | ((try subst hA); (try subst hS); (try subst hR); (try subst hX); (try subst hC); (try subst hV); (try subst hT); decide +kernel)
  with_reducible refine run_seq_cut fun kk hn hx => ?_
  with_reducible refine Dr_run (by decide +kernel) ?_
  with_reducible refine Dr_cut 20 fun P hP => ?_
  cbv
  with_reducible refine hP _ ?_
  clear hP P
  with_reducible refine Dr_cut 20 fun P hP => ?_
  cbv
  with_reducible refine hP _ ?_
  clear hP P
  with_reducible refine Dr_cut 20 fun P hP => ?_
  cbv
  with_reducible refine hP _ ?_
  clear hP P
  with_reducible refine Dr_cut 15 fun P hP => ?_
  cbv
  with_reducible refine hP _ ?_
  clear hP P
  with_reducible refine Dr_cut 10 fun P hP => ?_
  cbv
  with_reducible refine hP _ ?_
  clear hP P
  with_reducible refine Dr_cut 5 fun P hP => ?_
  cbv
  with_reducible refine hP _ ?_
  clear hP P
  with_reducible refine Dr_cut 3 fun P hP => ?_
  cbv
  with_reducible refine hP _ ?_
  clear hP P
  cbv
  repeat' with_reducible refine And.intro ?_ ?_
  all_goals first | (with_reducible refine hn _ ?_; clear hn hx kk) | ((try subst hA); (try subst hS); (try subst hR); (try subst hX); (try subst hC); (try subst hV); (try subst hT); decide +kernel)
  cbv
  refine hk _ _ (Good.pure rfl fun ρ => ?_)
  refine congrArg Value.bool ?_
  clear hk hL
  (try subst hA); (try subst hS); (try subst hR); (try subst hX); (try subst hC); (try subst hV); (try subst hT); decide +kernel

def tN21 (A : Alg) (S : SW) (V : SV) (T : ST) : List (Nat × Sem') := (13, heapSem [] A (gTrue1)) :: ((tN20 A S V T))
theorem tN21OK : COK Try.prog (look (tN21 stdA stdW stdV stdT)) := COK_cons ok_known1 (tN20OK)
end Go.Eng
