
import Derived.Test.YtekohdfjkmdlpaaGreatZLP0
import Derived.Test.YtekohdfjkmdlpaaGreatZCUA
import Derived.Test.YtekohdfjkmdlpaaGreatZCRB
import Derived.Test.YtekohdfjkmdlpaaGreatSpecFA
set_option linter.all false
set_option exponentiation.threshold 3000
namespace Go.Eng
open Go.Proofs
set_option maxRecDepth 100000
set_option linter.all false
set_option exponentiation.threshold 3000
set_option maxHeartbeats 2000000
def gPT (A : Alg) : List CV → List Blk → Option LR
  | [.g [.P a], .g [.P b], .g [.P c], .s (.hs 0), .s (.int .i16 x), .s (.int .i16 y)], [.vec false .pt l] => some ⟨[A.cmp .leq (-32768) x, A.cmp .lss x 32768, A.cmp .leq (-32768) y, A.cmp .lss y 32768], .c (.s (.bool true)), []⟩
  | _, _ => none
structure WrB (A : Alg) (x : Int) : Prop where
  lo : A.cmp .leq (-9223372036854775808) (A.wrap .i64 x) = true
  hi : A.cmp .lss (A.wrap .i64 x) 9223372036854775808 = true
theorem wr_b (A : Alg) (hA : A = stdA) (x : Int) : WrB A x := by
  have h : IntKind.i64.wrap x = (x + 9223372036854775808) % 18446744073709551616 - 9223372036854775808 := IntKind.wrap_i64 x
  subst hA
  have e : stdA.wrap .i64 x = IntKind.i64.wrap x := rfl
  exact ⟨leq_of _ rfl _ _ (by rw [e, h]; omega), lss_of _ rfl _ _ (by rw [e, h]; omega)⟩
def tL9 (A : Alg) (H : SH) : List (Nat × Sem') := (13, heapSem [] A (gKnown)) :: (14, heapSem [.v, .v] A (gCmpP H)) :: (15, heapSem [.v, .v] A (gCmpP H)) :: (16, heapSem [.v, .v, .v] A (gCross H)) :: (17, heapSem [.v, .v, .v] A (gCrossP H)) :: (18, heapSem [.v, .v, .v] A (gDotP H)) :: (19, heapSem [.v, .v, .v] A (gDotR H)) :: (20, heapSem [.v, .v, .v] A (gTurn H)) :: (21, heapSem [.v, .v, .v] A (gTurnP H)) :: (22, heapSem [.v, .v] A (gFar H)) :: (23, heapSem [.v, .v] A (gFar H)) :: (24, heapSem [.s .pt] A (gMid A H)) :: (25, heapSem [.s .pt] A (gMid A H)) :: (26, heapSem [.v] A (gIsP H)) :: (27, heapSem [.v] A (gIsP H)) :: (28, heapSem [.v, .v] A (gAtP A H)) :: (29, heapSem [.v, .v] A (gAtP A H)) :: ([])
theorem tL9OK : COK Tryz.prog (look (tL9 stdA stdH)) := COK_cons ok_known3 (COK_cons ok_pcmp (COK_cons ok_qcmp (COK_cons ok_pcross (COK_cons ok_qcross (COK_cons ok_pdot (COK_cons ok_qdot (COK_cons ok_pturn (COK_cons ok_qturn (COK_cons ok_pfar (COK_cons ok_qfar (COK_cons ok_fmid (COK_cons ok_qmid (COK_cons ok_pis (COK_cons ok_qis (COK_cons ok_fat (COK_cons ok_qat (COK_nil)))))))))))))))))
theorem ok_pointTells : CallOK Tryz.prog 3 (heapSem [.v, .v, .v, .s .pt, .v, .v] stdA (gPT stdA)) := by
  refine callOK_heap (un := ⟨false, some [0,1,2,3,4,5,6,7,8,12,13,14,15,16,17,18,19,20,21,22,23,24,25,26,27,28,29,30,31,32,33,34,35,36,38,41,109]⟩) tok tL9OK mixed (fn := Tryz.f3) (by kernel_rfl) (by kernel_rfl) (by kernel_rfl) (by decide +kernel) ?_
  intro w Wr args bs r hg ho hWr A L k hA hL hk
  obtain ⟨H, hH⟩ : ∃ H, H = stdH := ⟨_, rfl⟩
  (try rw [← hH])
  (try rw [← hA])
  unfold gPT at hg
  split at hg
  rotate_left
  · cases hg
  simp only [Option.some.injEq] at hg
  subst hg
  rename_i a b c x y l
  have eq := eq_a A hA
  have wx := wr_b A hA x
  have wy := wr_b A hA y
  have ln : A.cmp .gtr (A.len l) 8 = false → A.cmp .lss (A.len l) 1000000 = true := fun h => by
    subst hA
    have h : ¬ ((l.length : Int) > 8) := of_decide_eq_false h
    exact lss_of _ rfl _ _ (by show (l.length : Int) < 1000000; omega)
  cbv
  repeat' first | (with_reducible intro hb; cbv) | with_reducible refine And.intro ?_ ?_
  · exfalso; subst hA; cases hb
  · refine hk _ _ (Good.pure rfl fun ρ => ?_)
    exact retT rfl
  · exfalso
    have nn : ∀ n : Int, A.cmp .neq n n = false := fun n => by subst hA; show (n != n) = false; simp
    have i2 : A.ite false true false = false := by subst hA; rfl
    simp only [nn, eq.b, eq.n1, eq.of, eq.r, i2] at hb
    cases hb
  have ln' := ln (by assumption)
  clear ln
  intro hb
  clear hb
  with_reducible refine run_skipM ?_
  show run _ _ (Code.seq _ _) _ _
  with_reducible refine run_seq_cut fun kk hn hx => ?_
  cbv
  repeat' first | (with_reducible intro hb; cbv) | with_reducible refine And.intro ?_ ?_
  all_goals first | (with_reducible refine hn _ ?_; clear hn hx kk) | ((try subst hA); (try subst hS); (try subst hR); (try subst hX); (try subst hC); (try subst hV); (try subst hT); (try subst hM); (try subst hF); (try subst hH); (try subst hK); (try subst hJ); (try subst hE); (try subst hD); (try subst hU); decide +kernel)
  with_reducible refine run_seq_cut fun kk hn hx => ?_
  cbv
  repeat' first | (with_reducible intro hb; cbv) | with_reducible refine And.intro ?_ ?_
  all_goals first | (with_reducible refine hn _ ?_; clear hn hx kk) | ((try subst hA); (try subst hS); (try subst hR); (try subst hX); (try subst hC); (try subst hV); (try subst hT); (try subst hM); (try subst hF); (try subst hH); (try subst hK); (try subst hJ); (try subst hE); (try subst hD); (try subst hU); decide +kernel)
  with_reducible refine run_seq_cut fun kk hn hx => ?_
  cbv
  repeat' first | (with_reducible intro hb; cbv) | with_reducible refine And.intro ?_ ?_
  all_goals first | (with_reducible refine hn _ ?_; clear hn hx kk) | ((try subst hA); (try subst hS); (try subst hR); (try subst hX); (try subst hC); (try subst hV); (try subst hT); (try subst hM); (try subst hF); (try subst hH); (try subst hK); (try subst hJ); (try subst hE); (try subst hD); (try subst hU); decide +kernel)
  with_reducible refine run_seq_cut fun kk hn hx => ?_
  cbv
  repeat' first | (with_reducible intro hb; cbv) | with_reducible refine And.intro ?_ ?_
  all_goals first | (with_reducible refine hn _ ?_; clear hn hx kk) | ((try subst hA); (try subst hS); (try subst hR); (try subst hX); (try subst hC); (try subst hV); (try subst hT); (try subst hM); (try subst hF); (try subst hH); (try subst hK); (try subst hJ); (try subst hE); (try subst hD); (try subst hU); decide +kernel)
  with_reducible refine run_seq_cut fun kk hn hx => ?_
  cbv
  repeat' first | (with_reducible intro hb; cbv) | with_reducible refine And.intro ?_ ?_
  · exact ln'
  with_reducible refine hn _ ?_; clear hn hx kk
  with_reducible refine run_seq_cut fun kk hn hx => ?_
  cbv
  repeat' first | (with_reducible intro hb; cbv) | with_reducible refine And.intro ?_ ?_
  · exact ln'
  with_reducible refine hn _ ?_; clear hn hx kk
  with_reducible refine run_seq_cut fun kk hn hx => ?_
  with_reducible refine Dr_run (hsp := by kernel_rfl) (by decide +kernel) ?_
  with_reducible refine Dr_cut 15 fun P hP => ?_
  cbv
  with_reducible refine hP _ ?_
  clear hP P
  with_reducible refine Dr_cut 15 fun P hP => ?_
  cbv
  with_reducible refine hP _ ?_
  clear hP P
  with_reducible refine Dr_cut 15 fun P hP => ?_
  cbv
  with_reducible refine hP _ ?_
  clear hP P
  with_reducible refine Dr_cut 3 fun P hP => ?_
  cbv
  with_reducible refine hP _ ?_
  clear hP P
  with_reducible refine Dr_end (by kernel_rfl) (by kernel_rfl) ?_
  have im : ∀ b, A.imp b true = true := fun b => by subst hA; cases b <;> rfl
  have im2 : ∀ b c, c = true → A.imp b c = true := fun b c h => by rw [h]; exact im b
  cbv
  repeat' with_reducible refine And.intro ?_ ?_
  all_goals first | (with_reducible refine hn _ ?_; clear hn hx kk) | exact im2 _ _ wx.lo | exact im2 _ _ wx.hi | exact im2 _ _ wy.lo | exact im2 _ _ wy.hi | skip
  cbv
  refine hk _ _ (Good.pure rfl fun ρ => ?_)
  refine retB ?_
  have ep : A.eqP (H.at_ (A.wrap .i64 x) (A.wrap .i64 y)) (H.at_ (A.wrap .i64 x) (A.wrap .i64 y)) = true := eq.p _
  simp only [eq.b, eq.i, eq.r, eq.p, eq.t]
end Go.Eng

