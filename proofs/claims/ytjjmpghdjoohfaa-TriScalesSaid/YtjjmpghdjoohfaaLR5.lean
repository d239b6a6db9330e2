
import Derived.Test.YtjjmpghdjoohfaaLR0
import Derived.Test.YtjjmpghdjoohfaaSpecFA
import Derived.Test.YtjjmpghdjoohfaaSpecTs
set_option linter.all false
set_option exponentiation.threshold 3000
namespace Go.Eng
open Go.Proofs
set_option maxRecDepth 100000
set_option linter.all false
set_option exponentiation.threshold 3000
set_option maxHeartbeats 2000000
def gTZ (A : Alg) : List CV → List Blk → Option LR
  | [.s (.int .i8 a), .s (.int .i8 b), .s (.int .i8 c), .s (.int .i8 d), .s (.int .u8 k)], [] => some ⟨[A.cmp .leq (-128) a, A.cmp .lss a 128, A.cmp .leq (-128) b, A.cmp .lss b 128, A.cmp .leq (-128) c, A.cmp .lss c 128, A.cmp .leq (-128) d, A.cmp .lss d 128, A.cmp .leq 0 k, A.cmp .lss k 256], .c (.s (.bool true)), []⟩
  | _, _ => none
theorem b8z {x lo hi : Int} {l : List Bool} (h : ∀ b, b ∈ stdA.cmp .leq lo x :: stdA.cmp .lss x hi :: l → b = true) : (lo ≤ x ∧ x < hi) ∧ ∀ b, b ∈ l → b = true :=
  ⟨⟨of_decide_eq_true (ho_cons h).1, of_decide_eq_true (ho_cons (ho_cons h).2).1⟩, (ho_cons (ho_cons h).2).2⟩
structure W8z (A : Alg) (x : Int) : Prop where
  w : A.wrap .i64 x = x
  a : A.cmp .leq (-9223372036854775808) x = true
  b : A.cmp .lss x 9223372036854775808 = true
theorem w8z {x : Int} (h1 : -9223372036854775808 ≤ x) (h2 : x < 9223372036854775808) (A : Alg) (hA : A = stdA) : W8z A x := by
  subst hA
  refine ⟨?_, leq_of _ rfl _ _ h1, lss_of _ rfl _ _ h2⟩
  show IntKind.i64.wrap x = x
  rw [IntKind.wrap_i64]; omega
theorem rem_u8 {k c : Int} (k0 : 0 ≤ k) (k1 : k < 256) (c0 : 0 < c) (c1 : c < 256) : stdBin .rem .u8 k c = k % c := by
  have h0 := Int.emod_nonneg k (show c ≠ 0 by omega)
  have h1 := Int.emod_lt_of_pos k c0
  simp only [stdBin, IntKind.wrap_u8]
  rw [Int.tmod_eq_emod_of_nonneg k0]
  (try omega)
structure TzN (A : Alg) (bx by_ cx cy k n : Int) : Prop where
  nn : A.bin .add .i64 (A.wrap .i64 (A.bin .rem .u8 k 9)) 1 = n
  ng : A.bin .sub .i64 0 n = -n
  m1 : A.bin .mul .i64 n bx = n * bx
  m2 : A.bin .mul .i64 (-n) by_ = -n * by_
  m3 : A.bin .mul .i64 n cx = n * cx
  m4 : A.bin .mul .i64 (-n) cy = -n * cy
  b1 : W8z A (n * bx)
  b2 : W8z A (-n * by_)
  b3 : W8z A (n * cx)
  b4 : W8z A (-n * cy)
theorem tz_n {bx by_ cx cy k : Int} (h1 : -128 ≤ bx ∧ bx < 128) (h2 : -128 ≤ by_ ∧ by_ < 128) (h3 : -128 ≤ cx ∧ cx < 128) (h4 : -128 ≤ cy ∧ cy < 128) (h5 : 0 ≤ k ∧ k < 256) (A : Alg) (hA : A = stdA) : ∃ n, (1 ≤ n ∧ n < 10) ∧ TzN A bx by_ cx cy k n := by
  refine ⟨k % 9 + 1, by omega, ?_⟩
  have hn : 1 ≤ k % 9 + 1 ∧ k % 9 + 1 < 10 := by omega
  have er : stdBin .rem .u8 k 9 = k % 9 := rem_u8 h5.1 h5.2 (by decide) (by decide)
  have e0 : stdBin .add .i64 (IntKind.i64.wrap (k % 9)) 1 = k % 9 + 1 := by
    simp only [stdBin, IntKind.wrap_i64]; omega
  generalize k % 9 + 1 = n at *
  have pr : ∀ x : Int, -128 ≤ x ∧ x < 128 → -32768 < n * x ∧ n * x < 32768 := fun x h => by
    have g : (n * x).natAbs < 2 ^ 4 * 2 ^ 8 := by
      rw [Int.natAbs_mul]; exact Nat.mul_lt_mul'' (by omega) (by omega)
    omega
  have pm : ∀ x : Int, -128 ≤ x ∧ x < 128 → -32768 < -n * x ∧ -n * x < 32768 := fun x h => by
    have := pr x h
    rw [Int.neg_mul]; omega
  have ml : ∀ x y : Int, -32768 < x * y ∧ x * y < 32768 → A.bin .mul .i64 x y = x * y := fun x y h => by
    subst hA
    show stdBin .mul .i64 x y = x * y
    simp only [stdBin, IntKind.wrap_i64]; omega
  have bd : ∀ x : Int, -32768 < x ∧ x < 32768 → W8z A x := fun x h => w8z (by omega) (by omega) A hA
  refine ⟨?_, ?_, ml _ _ (pr _ h1), ml _ _ (pm _ h2), ml _ _ (pr _ h3), ml _ _ (pm _ h4), bd _ (pr _ h1), bd _ (pm _ h2), bd _ (pr _ h3), bd _ (pm _ h4)⟩
  · subst hA
    show stdBin .add .i64 (IntKind.i64.wrap (stdBin .rem .u8 k 9)) 1 = n
    rw [er]; exact e0
  · subst hA
    show stdBin .sub .i64 0 n = -n
    simp only [stdBin, IntKind.wrap_i64]; (try omega)
structure TzG (A : Alg) (H : SH) (E : SE) (bx by_ cx cy k n mn x1 x2 x3 x4 : Int) : Prop where
  nn : A.bin .add .i64 (A.wrap .i64 (A.bin .rem .u8 k 9)) 1 = n
  ng : A.bin .sub .i64 0 n = mn
  m1 : A.bin .mul .i64 n bx = x1
  m2 : A.bin .mul .i64 mn by_ = x2
  m3 : A.bin .mul .i64 n cx = x3
  m4 : A.bin .mul .i64 mn cy = x4
  b1 : W8z A x1
  b2 : W8z A x2
  b3 : W8z A x3
  b4 : W8z A x4
  p1 : H.all [H.at_ 0 0, H.at_ bx by_, H.at_ cx cy] = true
  p2 : H.all [H.at_ 0 0, H.at_ x2 x1, H.at_ x4 x3] = true
  p3 : H.all [H.at_ 0 0, H.at_ cy cx, H.at_ by_ bx] = true
  g1 : A.beq (E.good (H.at_ 0 0) (H.at_ bx by_) (H.at_ cx cy)) (E.good (H.at_ 0 0) (H.at_ x2 x1) (H.at_ x4 x3)) = true
  g2 : A.beq (E.good (H.at_ 0 0) (H.at_ bx by_) (H.at_ cx cy)) (E.good (H.at_ 0 0) (H.at_ cy cx) (H.at_ by_ bx)) = true
  s : A.eqR (E.sharp (H.at_ 0 0) (H.at_ bx by_) (H.at_ cx cy)) (E.sharp (H.at_ 0 0) (H.at_ x2 x1) (H.at_ x4 x3)) = true
  t : A.beq (E.acute (H.at_ 0 0) (H.at_ bx by_) (H.at_ cx cy)) (E.acute (H.at_ 0 0) (H.at_ x2 x1) (H.at_ x4 x3)) = true
theorem tz_g {bx by_ cx cy k : Int} (h1 : -128 ≤ bx ∧ bx < 128) (h2 : -128 ≤ by_ ∧ by_ < 128) (h3 : -128 ≤ cx ∧ cx < 128) (h4 : -128 ≤ cy ∧ cy < 128) (h5 : 0 ≤ k ∧ k < 256) (A : Alg) (hA : A = stdA) (H : SH) (hH : H = stdH) (E : SE) (hE : E = stdE) : ∃ n mn x1 x2 x3 x4, TzG A H E bx by_ cx cy k n mn x1 x2 x3 x4 := by
  obtain ⟨n, hn, tn⟩ := tz_n h1 h2 h3 h4 h5 A hA
  have tz := tz_f h1 h2 h3 h4 hn A hA H hH E hE
  exact ⟨n, -n, n * bx, -n * by_, n * cx, -n * cy, tn.nn, tn.ng, tn.m1, tn.m2, tn.m3, tn.m4, tn.b1, tn.b2, tn.b3, tn.b4, tz.p1, tz.p2, tz.p3, tz.g1, tz.g2, tz.s, tz.t⟩
def tTa (A : Alg) (H : SH) (E : SE) : List (Nat × Sem') := (13, heapSem [] A (gKnown)) :: (11, heapSem [.v, .v] A (gAtP A H)) :: (14, heapSem [.v, .v, .v] A (gGood H E)) :: (15, heapSem [.v, .v, .v] A (gSharp H E)) :: ([])
theorem tTaOK : COK Try.prog (look (tTa stdA stdH stdE)) := COK_cons ok_known5 (COK_cons ok_qat (COK_cons ok_tgood (COK_cons ok_tsharp (COK_nil))))
theorem ok_triScales : CallOK Try.prog 6 (heapSem [.v, .v, .v, .v, .v] stdA (gTZ stdA)) := by
  refine callOK_heap (un := ⟨false, some [0,1,2,3,4,10,11,12,13,14,15,16,17,18,19,20,21,22,23,24,25,26,27,28,29,30,32]⟩) tok tTaOK mixed (fn := Try.f6) (by kernel_rfl) (by kernel_rfl) (by kernel_rfl) (by decide +kernel) ?_
  intro w Wr args bs r hg ho hWr A L k hA hL hk
  obtain ⟨E, hE⟩ : ∃ E, E = stdE := ⟨_, rfl⟩
  obtain ⟨H, hH⟩ : ∃ H, H = stdH := ⟨_, rfl⟩
  (try rw [← hE])
  (try rw [← hH])
  (try rw [← hA])
  unfold gTZ at hg
  split at hg
  rotate_left
  · cases hg
  simp only [Option.some.injEq] at hg
  subst hg
  rename_i bx by_ cx cy k
  obtain ⟨h1, ho⟩ := b8z ho
  obtain ⟨h2, ho⟩ := b8z ho
  obtain ⟨h3, ho⟩ := b8z ho
  obtain ⟨h4, ho⟩ := b8z ho
  obtain ⟨h5, ho⟩ := b8z ho
  clear ho
  have w1 := w8z (x := bx) (by omega) (by omega) A hA
  have w2 := w8z (x := by_) (by omega) (by omega) A hA
  have w3 := w8z (x := cx) (by omega) (by omega) A hA
  have w4 := w8z (x := cy) (by omega) (by omega) A hA
  have w0 := w8z (x := 0) (by omega) (by omega) A hA
  obtain ⟨n, mn, x1, x2, x3, x4, tn⟩ := tz_g h1 h2 h3 h4 h5 A hA H hH E hE
  have tz := tn
  have eq := eq_a A hA
  refine runF_body rfl ?_
  with_reducible refine run_seq_cut fun kk hn hx => ?_
  cbv
  repeat' first | (with_reducible intro hb; cbv) | with_reducible refine And.intro ?_ ?_
  all_goals first | (with_reducible refine hn _ ?_; clear hn hx kk) | ((try subst hA); (try subst hS); (try subst hR); (try subst hX); (try subst hC); (try subst hV); (try subst hT); (try subst hM); (try subst hF); (try subst hH); (try subst hK); (try subst hJ); (try subst hE); (try subst hD); decide +kernel)
  with_reducible refine run_seq_cut fun kk hn hx => ?_
  cbv
  repeat' first | (with_reducible intro hb; cbv) | with_reducible refine And.intro ?_ ?_
  · exfalso; subst hA; cases hb
  with_reducible refine hn _ ?_; clear hn hx kk
  with_reducible refine run_seq_cut fun kk hn hx => ?_
  cbv
  repeat' first | (with_reducible intro hb; cbv) | with_reducible refine And.intro ?_ ?_
  all_goals first | (with_reducible refine hn _ ?_; clear hn hx kk) | ((try subst hA); (try subst hS); (try subst hR); (try subst hX); (try subst hC); (try subst hV); (try subst hT); (try subst hM); (try subst hF); (try subst hH); (try subst hK); (try subst hJ); (try subst hE); (try subst hD); decide +kernel)
  with_reducible refine run_seq_cut fun kk hn hx => ?_
  cbv
  repeat' first | (with_reducible intro hb; cbv) | with_reducible refine And.intro ?_ ?_
  all_goals (try simp only [w1.w, w2.w, w3.w, w4.w])
  all_goals first | (with_reducible refine hn _ ?_; clear hn hx kk) | exact w1.a | exact w1.b | exact w2.a | exact w2.b | exact w0.a | exact w0.b | exact w3.a | exact w3.b | exact w4.a | exact w4.b
  with_reducible refine run_seq_cut fun kk hn hx => ?_
  cbv
  repeat' first | (with_reducible intro hb; cbv) | with_reducible refine And.intro ?_ ?_
  all_goals (try simp only [w1.w, w2.w, w3.w, w4.w, tn.nn, tn.ng, tn.m1, tn.m2, tn.m3, tn.m4])
  all_goals first | (with_reducible refine hn _ ?_; clear hn hx kk) | exact tn.b1.a | exact tn.b1.b | exact tn.b2.a | exact tn.b2.b | exact tn.b3.a | exact tn.b3.b | exact tn.b4.a | exact tn.b4.b
  with_reducible refine run_seq_cut fun kk hn hx => ?_
  cbv
  repeat' first | (with_reducible intro hb; cbv) | with_reducible refine And.intro ?_ ?_
  all_goals (try simp only [w1.w, w2.w, w3.w, w4.w])
  all_goals first | (with_reducible refine hn _ ?_; clear hn hx kk) | exact w1.a | exact w1.b | exact w2.a | exact w2.b | exact w3.a | exact w3.b | exact w4.a | exact w4.b
  with_reducible refine run_seq_cut fun kk hn hx => ?_
  cbv
  repeat' first | (with_reducible intro hb; cbv) | with_reducible refine And.intro ?_ ?_
  all_goals first | (with_reducible refine hn _ ?_; clear hn hx kk) | ((try subst hA); (try subst hS); (try subst hR); (try subst hX); (try subst hC); (try subst hV); (try subst hT); (try subst hM); (try subst hF); (try subst hH); (try subst hK); (try subst hJ); (try subst hE); (try subst hD); decide +kernel)
  with_reducible refine run_seq_cut fun kk hn hx => ?_
  cbv
  repeat' first | (with_reducible intro hb; cbv) | with_reducible refine And.intro ?_ ?_
  all_goals first | (with_reducible refine hn _ ?_; clear hn hx kk) | ((try subst hA); (try subst hS); (try subst hR); (try subst hX); (try subst hC); (try subst hV); (try subst hT); (try subst hM); (try subst hF); (try subst hH); (try subst hK); (try subst hJ); (try subst hE); (try subst hD); decide +kernel)
  with_reducible refine run_seq_cut fun kk hn hx => ?_
  cbv
  repeat' first | (with_reducible intro hb; cbv) | with_reducible refine And.intro ?_ ?_
  all_goals first | (with_reducible refine hn _ ?_; clear hn hx kk) | ((try subst hA); (try subst hS); (try subst hR); (try subst hX); (try subst hC); (try subst hV); (try subst hT); (try subst hM); (try subst hF); (try subst hH); (try subst hK); (try subst hJ); (try subst hE); (try subst hD); decide +kernel)
  with_reducible refine run_seq_cut fun kk hn hx => ?_
  cbv
  repeat' first | (with_reducible intro hb; cbv) | with_reducible refine And.intro ?_ ?_
  all_goals first | (with_reducible refine hn _ ?_; clear hn hx kk) | ((try subst hA); (try subst hS); (try subst hR); (try subst hX); (try subst hC); (try subst hV); (try subst hT); (try subst hM); (try subst hF); (try subst hH); (try subst hK); (try subst hJ); (try subst hE); (try subst hD); decide +kernel)
  with_reducible refine run_seq_cut fun kk hn hx => ?_
  cbv
  repeat' first | (with_reducible intro hb; cbv) | with_reducible refine And.intro ?_ ?_
  all_goals first | (with_reducible refine hn _ ?_; clear hn hx kk) | ((try subst hA); (try subst hS); (try subst hR); (try subst hX); (try subst hC); (try subst hV); (try subst hT); (try subst hM); (try subst hF); (try subst hH); (try subst hK); (try subst hJ); (try subst hE); (try subst hD); decide +kernel)
  cbv
  repeat' first | (with_reducible intro hb; cbv) | with_reducible refine And.intro ?_ ?_
  refine hk _ _ (Good.pure rfl fun ρ => ?_)
  refine retB ?_
  simp only [tz.p1, tz.p2, tz.p3, tz.g1, tz.g2, tz.s, tz.t, eq.t]
end Go.Eng

