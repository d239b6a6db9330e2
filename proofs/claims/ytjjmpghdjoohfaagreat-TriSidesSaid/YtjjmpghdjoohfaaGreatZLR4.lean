
import Derived.Test.YtjjmpghdjoohfaaGreatZLR0
import Derived.Test.YtjjmpghdjoohfaaGreatSpecFA
import Derived.Test.YtjjmpghdjoohfaaGreatSpecTr
set_option linter.all false
set_option exponentiation.threshold 3000
namespace Go.Eng
open Go.Proofs
set_option maxRecDepth 100000
set_option linter.all false
set_option exponentiation.threshold 3000
set_option maxHeartbeats 2000000
def gTS (A : Alg) : List CV → List Blk → Option LR
  | [.s (.int .u8 n), .s (.int .u8 m), .s (.int .i8 a), .s (.int .i8 b)], [] => some ⟨[A.cmp .leq 0 n, A.cmp .lss n 256, A.cmp .leq 0 m, A.cmp .lss m 256, A.cmp .leq (-128) a, A.cmp .lss a 128, A.cmp .leq (-128) b, A.cmp .lss b 128], .c (.s (.bool true)), []⟩
  | _, _ => none
theorem b8_of {x lo hi : Int} {l : List Bool} (h : ∀ b, b ∈ stdA.cmp .leq lo x :: stdA.cmp .lss x hi :: l → b = true) : (lo ≤ x ∧ x < hi) ∧ ∀ b, b ∈ l → b = true :=
  ⟨⟨of_decide_eq_true (ho_cons h).1, of_decide_eq_true (ho_cons (ho_cons h).2).1⟩, (ho_cons (ho_cons h).2).2⟩
structure W8 (A : Alg) (x : Int) : Prop where
  w : A.wrap .i64 x = x
  a : A.cmp .leq (-9223372036854775808) x = true
  b : A.cmp .lss x 9223372036854775808 = true
theorem w8 {x : Int} (h1 : -9223372036854775808 ≤ x) (h2 : x < 9223372036854775808) (A : Alg) (hA : A = stdA) : W8 A x := by
  subst hA
  refine ⟨?_, leq_of _ rfl _ _ h1, lss_of _ rfl _ _ h2⟩
  show IntKind.i64.wrap x = x
  rw [IntKind.wrap_i64]; omega
def tS9 (A : Alg) (F : SF) (H : SH) (E : SE) : List (Nat × Sem') := (21, heapSem [] A (gKnown)) :: (18, heapSem [.v, .v] A (gAtP A H)) :: (28, heapSem [.v, .v, .v] A (gSides H E)) :: (36, heapSem [.v, .v] A (gAddF F)) :: (33, heapSem [.v] A (gWholeH A H)) :: ([])
theorem tS9OK : COK Tryz.prog (look (tS9 stdA stdF stdH stdE)) := COK_cons ok_known5 (COK_cons ok_qat (COK_cons ok_tsides (COK_cons ok_radd (COK_cons ok_rwhole (COK_nil)))))
theorem ok_triSides : CallOK Tryz.prog 8 (heapSem [.v, .v, .v, .v] stdA (gTS stdA)) := by
  refine callOK_heap (un := ⟨false, some [0,1,2,3,8,9,10,11,12,13,14,15,16,17,18,19,21]⟩) tok tS9OK mixed (fn := Tryz.f8) (by kernel_rfl) (by kernel_rfl) (by kernel_rfl) (by decide +kernel) ?_
  intro w Wr args bs r hg ho hWr A L k hA hL hk
  obtain ⟨E, hE⟩ : ∃ E, E = stdE := ⟨_, rfl⟩
  obtain ⟨F, hF⟩ : ∃ F, F = stdF := ⟨_, rfl⟩
  obtain ⟨H, hH⟩ : ∃ H, H = stdH := ⟨_, rfl⟩
  (try rw [← hE])
  (try rw [← hF])
  (try rw [← hH])
  (try rw [← hA])
  unfold gTS at hg
  split at hg
  rotate_left
  · cases hg
  simp only [Option.some.injEq] at hg
  subst hg
  rename_i w h bx by_
  obtain ⟨hw, ho⟩ := b8_of ho
  obtain ⟨hh, ho⟩ := b8_of ho
  obtain ⟨hx, ho⟩ := b8_of ho
  obtain ⟨hy, ho⟩ := b8_of ho
  clear ho
  have ts := ts_f hw hh hx hy A hA F hF H hH E hE
  have eq := eq_a A hA
  have w1 := w8 (x := w) (by omega) (by omega) A hA
  have w2 := w8 (x := h) (by omega) (by omega) A hA
  have w3 := w8 (x := bx) (by omega) (by omega) A hA
  have w4 := w8 (x := by_) (by omega) (by omega) A hA
  have w0 := w8 (x := 0) (by omega) (by omega) A hA
  refine runF_body rfl ?_
  with_reducible refine run_seq_cut fun kk hn hx => ?_
  cbv
  repeat' first | (with_reducible intro hb; cbv) | with_reducible refine And.intro ?_ ?_
  all_goals first | (with_reducible refine hn _ ?_; clear hn hx kk) | ((try subst hA); (try subst hS); (try subst hR); (try subst hX); (try subst hC); (try subst hV); (try subst hT); (try subst hM); (try subst hF); (try subst hH); (try subst hK); (try subst hJ); (try subst hE); decide +kernel)
  with_reducible refine run_seq_cut fun kk hn hx => ?_
  cbv
  repeat' first | (with_reducible intro hb; cbv) | with_reducible refine And.intro ?_ ?_
  · exfalso; subst hA; cases hb
  with_reducible refine hn _ ?_; clear hn hx kk
  with_reducible refine run_seq_cut fun kk hn hx => ?_
  cbv
  repeat' first | (with_reducible intro hb; cbv) | with_reducible refine And.intro ?_ ?_
  all_goals (try simp only [w1.w, w2.w, w3.w, w4.w])
  all_goals first | (with_reducible refine hn _ ?_; clear hn hx kk) | exact w1.a | exact w1.b | exact w2.a | exact w2.b | exact w0.a | exact w0.b
  with_reducible refine run_seq_cut fun kk hn hx => ?_
  cbv
  repeat' first | (with_reducible intro hb; cbv) | with_reducible refine And.intro ?_ ?_
  all_goals first | (with_reducible refine hn _ ?_; clear hn hx kk) | ((try subst hA); (try subst hS); (try subst hR); (try subst hX); (try subst hC); (try subst hV); (try subst hT); (try subst hM); (try subst hF); (try subst hH); (try subst hK); (try subst hJ); (try subst hE); decide +kernel)
  with_reducible refine run_seq_cut fun kk hn hx => ?_
  cbv
  repeat' first | (with_reducible intro hb; cbv) | with_reducible refine And.intro ?_ ?_
  all_goals first | (with_reducible refine hn _ ?_; clear hn hx kk) | ((try subst hA); (try subst hS); (try subst hR); (try subst hX); (try subst hC); (try subst hV); (try subst hT); (try subst hM); (try subst hF); (try subst hH); (try subst hK); (try subst hJ); (try subst hE); decide +kernel)
  with_reducible refine run_seq_cut fun kk hn hx => ?_
  cbv
  repeat' first | (with_reducible intro hb; cbv) | with_reducible refine And.intro ?_ ?_
  all_goals first | (with_reducible refine hn _ ?_; clear hn hx kk) | ((try subst hA); (try subst hS); (try subst hR); (try subst hX); (try subst hC); (try subst hV); (try subst hT); (try subst hM); (try subst hF); (try subst hH); (try subst hK); (try subst hJ); (try subst hE); decide +kernel)
  with_reducible refine run_seq_cut fun kk hn hx => ?_
  cbv
  repeat' first | (with_reducible intro hb; cbv) | with_reducible refine And.intro ?_ ?_
  all_goals (try simp only [w1.w, w2.w, w3.w, w4.w])
  all_goals first | (with_reducible refine hn _ ?_; clear hn hx kk) | exact w3.a | exact w3.b | exact w4.a | exact w4.b
  with_reducible refine run_seq_cut fun kk hn hx => ?_
  with_reducible refine Dr_run (hsp := by kernel_rfl) (by decide +kernel) ?_
  with_reducible refine Dr_cut 20 fun P hP => ?_
  cbv
  with_reducible refine hP _ ?_
  clear hP P
  with_reducible refine Dr_cut 20 fun P hP => ?_
  cbv
  with_reducible refine hP _ ?_
  clear hP P
  with_reducible refine Dr_cut 20 fun P hP => ?_
  cbv
  with_reducible refine hP _ ?_
  clear hP P
  with_reducible refine Dr_end (by kernel_rfl) (by kernel_rfl) ?_
  cbv
  repeat' with_reducible refine And.intro ?_ ?_
  all_goals first | (with_reducible refine hn _ ?_; clear hn hx kk) | (with_reducible refine impA hA ?_; first | exact w0.a | exact w0.b)
  cbv
  refine hk _ _ (Good.pure rfl fun ρ => ?_)
  refine retB ?_
  simp only [ts.p1, ts.p2, ts.p3, ts.n, ts.q1, ts.q2, ts.q3, ts.q4, ts.q5, ts.q6, eq.t]
end Go.Eng

