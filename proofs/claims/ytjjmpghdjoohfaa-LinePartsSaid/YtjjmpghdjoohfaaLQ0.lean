
import Derived.Test.YtjjmpghdjoohfaaCVB
import Derived.Test.YtjjmpghdjoohfaaEngZA
set_option linter.all false
set_option exponentiation.threshold 3000
namespace Go.Eng
open Go.Proofs
set_option maxRecDepth 100000
set_option linter.all false
set_option exponentiation.threshold 3000
set_option maxHeartbeats 2000000
structure KnQ (A : Alg) (S : SW) (F : SF) (H : SH) (J : SJ) : Prop where
  y : J.yok (H.at_ 0 0) (H.at_ 2 1) (H.whole 1) = true
  yv : A.eqR (J.yat (H.at_ 0 0) (H.at_ 2 1) (H.whole 1)) (F.new (S.from64 1) (S.from64 2)) = true
  x : J.xok (H.at_ 0 0) (H.at_ 2 1) (H.whole 1) = true
  xv : A.eqR (J.xat (H.at_ 0 0) (H.at_ 2 1) (H.whole 1)) (H.whole 2) = true
  no : J.yok (H.at_ 0 0) (H.at_ 2 1) (H.whole 3) = false
  p1 : H.all [H.at_ 0 0, H.at_ 2 1, H.at_ 4 2] = true
  on : J.on (H.at_ 0 0) (H.at_ 2 1) (H.at_ 4 2) = false
  p2 : H.all [H.at_ 0 0, H.at_ 2 1, H.at_ 0 1, H.at_ 2 0] = true
  m : J.meet (H.at_ 0 0) (H.at_ 2 1) (H.at_ 0 1) (H.at_ 2 0) = 2
  p3 : H.all [H.at_ 0 0, H.at_ 2 1, H.at_ 2 1, H.at_ 5 0] = true
  n : J.meet (H.at_ 0 0) (H.at_ 2 1) (H.at_ 2 1) (H.at_ 5 0) = 1
  e : ∀ n : Int, A.cmp .eql n n = true
  n0 : A.not false = true
  n1 : A.not true = false
  i : ∀ b, A.ite true b false = b
theorem kn_q (A : Alg) (hA : A = stdA) (S : SW) (hS : S = stdW) (F : SF) (hF : F = stdF) (H : SH) (hH : H = stdH) (J : SJ) (hJ : J = stdJ) : KnQ A S F H J := by
  subst hA hS hF hH hJ
  refine ⟨?_, ?_, ?_, ?_, ?_, ?_, ?_, ?_, ?_, ?_, ?_, fun n => by show (n == n) = true; simp, rfl, rfl, fun b => rfl⟩ <;> decide +kernel
def tP1 (A : Alg) (S : SW) (F : SF) (H : SH) (J : SJ) : List (Nat × Sem') := (11, heapSem [.v, .v] A (gAtP A H)) :: (17, heapSem [.v] A (gWholeH A H)) :: (16, heapSem [.v, .v, .v] A (gYAt J)) :: (18, heapSem [.v, .v, .v] A (gXAt J)) :: (10, heapSem [.v, .v, .v] A (gOnP A H J)) :: (9, heapSem [.v, .v, .v, .v] A (gMeet H J)) :: (19, heapSem [.v, .v] A (gOfF A S F)) :: ([])
theorem tP1OK : COK Try.prog (look (tP1 stdA stdW stdF stdH stdJ)) := COK_cons ok_qat (COK_cons ok_rwhole (COK_cons ok_lyat (COK_cons ok_lxat (COK_cons ok_lon (COK_cons ok_lmeet (COK_cons ok_rof (COK_nil)))))))
theorem ok_known4 : CallOK Try.prog 7 (heapSem [] stdA (gKnown)) := by
  refine callOK_heap (un := ⟨false, some [0,1,2,3,4,5,6,7,8,9,10,11,12,13,14,15,16]⟩) tok tP1OK mixed (fn := Try.f7) (by kernel_rfl) (by kernel_rfl) (by kernel_rfl) (by decide +kernel) ?_
  intro w Wr args bs r hg ho hWr A L k hA hL hk
  obtain ⟨F, hF⟩ : ∃ F, F = stdF := ⟨_, rfl⟩
  obtain ⟨H, hH⟩ : ∃ H, H = stdH := ⟨_, rfl⟩
  obtain ⟨J, hJ⟩ : ∃ J, J = stdJ := ⟨_, rfl⟩
  obtain ⟨S, hS⟩ : ∃ S, S = stdW := ⟨_, rfl⟩
  (try rw [← hF])
  (try rw [← hH])
  (try rw [← hJ])
  (try rw [← hS])
  (try rw [← hA])
  unfold gKnown at hg
  split at hg
  rotate_left
  · cases hg
  simp only [Option.some.injEq] at hg
  subst hg
  refine runF_body rfl ?_
  with_reducible refine run_seq_cut fun kk hn hx => ?_
  cbv
  repeat' first | (with_reducible intro hb; cbv) | with_reducible refine And.intro ?_ ?_
  all_goals first | (with_reducible refine hn _ ?_; clear hn hx kk) | ((try subst hA); (try subst hS); (try subst hR); (try subst hX); (try subst hC); (try subst hV); (try subst hT); (try subst hM); (try subst hF); (try subst hH); (try subst hK); (try subst hJ); (try subst hE); decide +kernel)
  with_reducible refine run_seq_cut fun kk hn hx => ?_
  cbv
  repeat' first | (with_reducible intro hb; cbv) | with_reducible refine And.intro ?_ ?_
  all_goals first | (with_reducible refine hn _ ?_; clear hn hx kk) | ((try subst hA); (try subst hS); (try subst hR); (try subst hX); (try subst hC); (try subst hV); (try subst hT); (try subst hM); (try subst hF); (try subst hH); (try subst hK); (try subst hJ); (try subst hE); decide +kernel)
  with_reducible refine run_seq_cut fun kk hn hx => ?_
  cbv
  repeat' first | (with_reducible intro hb; cbv) | with_reducible refine And.intro ?_ ?_
  all_goals first | (with_reducible refine hn _ ?_; clear hn hx kk) | ((try subst hA); (try subst hS); (try subst hR); (try subst hX); (try subst hC); (try subst hV); (try subst hT); (try subst hM); (try subst hF); (try subst hH); (try subst hK); (try subst hJ); (try subst hE); decide +kernel)
  with_reducible refine run_seq_cut fun kk hn hx => ?_
  cbv
  repeat' first | (with_reducible intro hb; cbv) | with_reducible refine And.intro ?_ ?_
  all_goals first | (with_reducible refine hn _ ?_; clear hn hx kk) | ((try subst hA); (try subst hS); (try subst hR); (try subst hX); (try subst hC); (try subst hV); (try subst hT); (try subst hM); (try subst hF); (try subst hH); (try subst hK); (try subst hJ); (try subst hE); decide +kernel)
  with_reducible refine run_seq_cut fun kk hn hx => ?_
  cbv
  repeat' first | (with_reducible intro hb; cbv) | with_reducible refine And.intro ?_ ?_
  all_goals first | (with_reducible refine hn _ ?_; clear hn hx kk) | ((try subst hA); (try subst hS); (try subst hR); (try subst hX); (try subst hC); (try subst hV); (try subst hT); (try subst hM); (try subst hF); (try subst hH); (try subst hK); (try subst hJ); (try subst hE); decide +kernel)
  with_reducible refine run_seq_cut fun kk hn hx => ?_
  cbv
  repeat' first | (with_reducible intro hb; cbv) | with_reducible refine And.intro ?_ ?_
  all_goals first | (with_reducible refine hn _ ?_; clear hn hx kk) | ((try subst hA); (try subst hS); (try subst hR); (try subst hX); (try subst hC); (try subst hV); (try subst hT); (try subst hM); (try subst hF); (try subst hH); (try subst hK); (try subst hJ); (try subst hE); decide +kernel)
  with_reducible refine run_seq_cut fun kk hn hx => ?_
  cbv
  repeat' first | (with_reducible intro hb; cbv) | with_reducible refine And.intro ?_ ?_
  all_goals first | (with_reducible refine hn _ ?_; clear hn hx kk) | ((try subst hA); (try subst hS); (try subst hR); (try subst hX); (try subst hC); (try subst hV); (try subst hT); (try subst hM); (try subst hF); (try subst hH); (try subst hK); (try subst hJ); (try subst hE); decide +kernel)
  with_reducible refine run_seq_cut fun kk hn hx => ?_
  cbv
  repeat' first | (with_reducible intro hb; cbv) | with_reducible refine And.intro ?_ ?_
  all_goals first | (with_reducible refine hn _ ?_; clear hn hx kk) | ((try subst hA); (try subst hS); (try subst hR); (try subst hX); (try subst hC); (try subst hV); (try subst hT); (try subst hM); (try subst hF); (try subst hH); (try subst hK); (try subst hJ); (try subst hE); decide +kernel)
  with_reducible refine run_seq_cut fun kk hn hx => ?_
  cbv
  repeat' first | (with_reducible intro hb; cbv) | with_reducible refine And.intro ?_ ?_
  all_goals first | (with_reducible refine hn _ ?_; clear hn hx kk) | ((try subst hA); (try subst hS); (try subst hR); (try subst hX); (try subst hC); (try subst hV); (try subst hT); (try subst hM); (try subst hF); (try subst hH); (try subst hK); (try subst hJ); (try subst hE); decide +kernel)
  with_reducible refine run_seq_cut fun kk hn hx => ?_
  with_reducible refine Dr_run (hsp := by kernel_rfl) (by decide +kernel) ?_
  with_reducible refine Dr_cut 15 fun P hP => ?_
  cbv
  with_reducible refine hP _ ?_
  clear hP P
  with_reducible refine Dr_cut 15 fun P hP => ?_
  cbv
  with_reducible refine hP _ ?_
  clear hP P
  with_reducible refine Dr_cut 10 fun P hP => ?_
  cbv
  with_reducible refine hP _ ?_
  clear hP P
  with_reducible refine Dr_end (by kernel_rfl) (by kernel_rfl) ?_
  have kn := kn_q A hA S hS F hF H hH J hJ
  cbv
  repeat' with_reducible refine And.intro ?_ ?_
  all_goals first | (with_reducible refine hn _ ?_; clear hn hx kk) | (with_reducible refine impA hA ?_; (try subst hA); (try subst hS); (try subst hR); (try subst hX); (try subst hC); (try subst hV); (try subst hT); (try subst hM); (try subst hF); (try subst hH); (try subst hK); (try subst hJ); (try subst hE); decide +kernel)
  cbv
  refine hk _ _ (Good.pure rfl fun ρ => ?_)
  refine retB ?_
  simp only [kn.y, kn.yv, kn.x, kn.xv, kn.no, kn.p1, kn.on, kn.p2, kn.m, kn.p3, kn.n, kn.e, kn.n0, kn.n1, kn.i]
end Go.Eng

